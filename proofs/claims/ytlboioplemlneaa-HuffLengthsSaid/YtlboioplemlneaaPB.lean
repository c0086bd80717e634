/- Codes of unlike lengths: whether lengths are whole, by the program and by the document. -/
import Derived.Test.YtlboioplemlneaaPA
import Derived.Test.YtlboioplemlneaaKF3
import Derived.Test.YtlboioplemlneaaKLowSh3
set_option maxRecDepth 100000
set_option maxHeartbeats 2000000
set_option linter.unusedVariables false
set_option linter.unusedSimpArgs false
namespace Go.Proofs.Ytlboioplemlneaa.K
open Go Go.Proofs
section
variable {H : Heap} {a : Option Addr} {c : Nat} {l : List Int}
theorem Whole_t (hl : Iv H a l) (hm : (l.length : Int) ≤ 9223372036854775807) : Wf S 61 [.slice a l.length c] H fun v H' => H' = H ∧ v = .bool (wholeB l) := by
  refine w61 rfl rfl _ ?_
  simp [s61]
  refine (right_t hl hm).mono ?_
  rintro v H1 ⟨rfl, rfl⟩
  by_cases hr : rightB l = true
  · have hlen := right_len hr
    have hall := right_all hr
    simp [hr]
    refine l61_0 S (fun d e H' => ∃ i : Nat, i ≤ l.length ∧ d = l.length - i ∧ H' = H1 ∧ e 3 = .int .i64 (2048 - sumTo (taken l) i) ∧ e 4 = .int .i64 (cntP l i) ∧ e 5 = .bool (oneAt l i) ∧ e 11 = .slice a l.length c ∧ e 12 = .int .i64 l.length ∧ e 13 = .int .i64 i) l.length ⟨0, by omega, by omega, rfl, by simp [sumTo], by simp [cntP], by simp [oneAt], by simp, by simp, by simp⟩ ?_
    rintro d e H' ⟨i, hi, rfl, rfl, e3, e4, e5, e11, e12, e13⟩
    by_cases h3 : i < l.length
    · obtain ⟨b, o, cs, rw, rfl, hg, hc⟩ := hl (by omega)
      obtain ⟨x, hx⟩ : ∃ x, l[i]? = some x := ⟨_, List.getElem?_eq_getElem h3⟩
      have hcx := hc i x hx
      have hax := at0_of hx
      have hxb := hall i
      rw [hax] at hxb
      have hw : IntKind.i64.wrap ((i : Int) + 1) = (i : Int) + 1 := wi (by omega) (by omega)
      have htb := tot_bd (l := l) i fun k _ => (hall k).2
      have hcb := cntP_bd l i
      by_cases g1 : 0 < x
      · have hpl : part x ≤ 1024 := part_le (by omega)
        have hpp := part_pos x
        have hw2 : IntKind.i64.wrap (11 - x) = 11 - x := wi (by omega) (by omega)
        have hw3 : IntKind.i64.wrap (cntP l i + 1) = cntP l i + 1 := wi (by omega) (by omega)
        have hw4 : IntKind.i64.wrap (2048 - sumTo (taken l) i - part x) = 2048 - sumTo (taken l) i - part x := wi (by omega) (by omega)
        have hsh := shl_part hxb.1 hxb.2
        have hn : ¬ (11 - x < 0) := by omega
        have hn2 : ¬ 11 < x := by omega
        simp only [Int.one_mul] at hsh
        simp [s61_0, e3, e4, e5, e11, e12, e13, h3, addOff, hg, hcx, g1, hw, hw2, hw3, kb_shl, hn, hn2, hsh, hw4]
        refine ⟨l.length - (i + 1), by omega, i + 1, by omega, rfl, ?_, ?_, ?_, by simp⟩
        · simp only [sumTo, taken, hax, g1, if_true]; omega
        · simp [cntP, hax, g1]
        · simp [oneAt, hax, g1]
      · simp [s61_0, e3, e4, e5, e11, e12, e13, h3, addOff, hg, hcx, g1, hw]
        refine ⟨l.length - (i + 1), by omega, i + 1, by omega, rfl, ?_, ?_, ?_, by simp⟩
        · simp [sumTo, taken, hax, g1]
        · simp [cntP, hax, g1]
        · simp [oneAt, hax, g1]
    · have h5 : i = l.length := by omega
      subst h5
      have hwp := whole_prog hr
      have hw : wholeB l = (decide (total l = 2048) || (decide (cntP l l.length = 1) && decide (total l = 1024))) := by simp only [wholeB, hr, Bool.true_and]
      rw [← hwp] at hw
      have ht : sumTo (taken l) l.length = total l := rfl
      by_cases q1 : 2048 - total l = 0
      · simp [s61_0, e3, e4, e5, e12, e13, ht, q1, hw]
      · by_cases q2 : cntP l l.length = 1
        · simp [s61_0, e3, e4, e5, e12, e13, ht, q1, q2, hw]
        · simp [s61_0, e3, e4, e5, e12, e13, ht, q1, q2, hw]
  · have : wholeB l = false := by simp [wholeB, hr]
    simp [hr, this]
theorem rWhole_t (hl : Iv H a l) (hm : (l.length : Int) ≤ 9223372036854775807) : Wf S 22 [.slice a l.length c] H fun v H' => H' = H ∧ v = .bool (wholeB l) := by
  refine w22 rfl rfl _ ?_
  simp [s22]
  refine (rright_t hl hm).mono ?_
  rintro v H1 ⟨rfl, rfl⟩
  by_cases hr : rightB l = true
  · have hlen := right_len hr
    have hall := right_all hr
    simp [hr]
    refine l22_0 S (fun d e H' => ∃ i : Nat, i ≤ l.length ∧ d = l.length - i ∧ H' = H1 ∧ e 0 = .slice a l.length c ∧ e 3 = .int .i64 (sumTo (taken l) i) ∧ e 4 = .int .i64 (cntP l i) ∧ e 5 = .int .i64 i) l.length ⟨0, by omega, by omega, rfl, by simp, by simp [sumTo], by simp [cntP], by simp⟩ ?_
    rintro d e H' ⟨i, hi, rfl, rfl, e0, e3, e4, e5⟩
    by_cases h3 : i < l.length
    · obtain ⟨b, o, cs, rw, rfl, hg, hc⟩ := hl (by omega)
      obtain ⟨x, hx⟩ : ∃ x, l[i]? = some x := ⟨_, List.getElem?_eq_getElem h3⟩
      have hcx := hc i x hx
      have hax := at0_of hx
      have hxb := hall i
      rw [hax] at hxb
      have hw : IntKind.i64.wrap ((i : Int) + 1) = (i : Int) + 1 := wi (by omega) (by omega)
      have htb := tot_bd (l := l) i fun k _ => (hall k).2
      have hcb := cntP_bd l i
      by_cases g1 : 0 < x
      · have hpl : part x ≤ 1024 := part_le (by omega)
        have hpp := part_pos x
        have hw2 : IntKind.i64.wrap (11 - x) = ((11 - x).toNat : Int) := by rw [wi (by omega) (by omega)]; omega
        have hw3 : IntKind.i64.wrap (cntP l i + 1) = cntP l i + 1 := wi (by omega) (by omega)
        have hw4 : IntKind.i64.wrap (sumTo (taken l) i + part x) = sumTo (taken l) i + part x := wi (by omega) (by omega)
        simp only [s22_0, e0, e3, e4, e5]
        simp [h3, addOff, hg, hcx, g1, e0, e3, e4, e5]
        rw [hw2]
        refine (Size_t H' (11 - x).toNat (by omega)).mono ?_
        rintro v H2 ⟨rfl, rfl⟩
        have hpe : p2 (11 - x).toNat = part x := rfl
        simp [e3, e4, e5, hpe, hw, hw3, hw4]
        refine ⟨l.length - (i + 1), by omega, i + 1, by omega, rfl, ?_, ?_, by simp⟩
        · simp [sumTo, taken, hax, g1]
        · simp [cntP, hax, g1]
      · simp [s22_0, e0, e3, e4, e5, h3, addOff, hg, hcx, g1, hw]
        refine ⟨l.length - (i + 1), by omega, i + 1, by omega, rfl, ?_, ?_, by simp⟩
        · simp [sumTo, taken, hax, g1]
        · simp [cntP, hax, g1]
    · have h5 : i = l.length := by omega
      subst h5
      have hw : wholeB l = (decide (total l = 2048) || (decide (cntP l l.length = 1) && decide (total l = 1024))) := by simp only [wholeB, hr, Bool.true_and]
      have ht : sumTo (taken l) l.length = total l := rfl
      by_cases q1 : total l = 2048
      · simp [s22_0, e0, e3, e4, e5, ht, q1, hw]
      · by_cases q2 : cntP l l.length = 1
        · simp [s22_0, e0, e3, e4, e5, ht, q1, q2, hw]
        · simp [s22_0, e0, e3, e4, e5, ht, q1, q2, hw]
  · have : wholeB l = false := by simp [wholeB, hr]
    simp [hr, this]
end
end Go.Proofs.Ytlboioplemlneaa.K
/- Codes of unlike lengths: the codes, by the program and by the document. -/
set_option maxRecDepth 100000
set_option maxHeartbeats 2000000
set_option linter.unusedVariables false
set_option linter.unusedSimpArgs false
namespace Go.Proofs.Ytlboioplemlneaa.K
open Go Go.Proofs
theorem ite_iff {p q : Prop} [Decidable p] [Decidable q] {x y : Int} (h1 : p → q) (h2 : q → p) : (if p then x else y) = if q then x else y := by
  by_cases hp : p
  · rw [if_pos hp, if_pos (h1 hp)]
  · rw [if_neg hp, if_neg fun hq => hp (h2 hq)]
def ints (l : List Int) : List Value := l.map (.int .i64)
/-- what is laid so far: of the symbols as long as n, the first s -/
def laidAt (l : List Int) (n : Nat) (s : Nat) : List Int := (List.range l.length).map fun k => if 0 < at0 l k ∧ (at0 l k < n ∨ at0 l k = n ∧ k < s) then codeOf l k else 0
def codes (l : List Int) : List Int := (List.range l.length).map (codeOf l)
theorem laidAt_len (l : List Int) (n s : Nat) : (laidAt l n s).length = l.length := by simp [laidAt]
theorem laidAt_get {l : List Int} {n s k : Nat} (hk : k < l.length) : (laidAt l n s)[k]? = some (if 0 < at0 l k ∧ (at0 l k < n ∨ at0 l k = n ∧ k < s) then codeOf l k else 0) := by
  simp [laidAt, hk]
theorem laidAt_succ {l : List Int} {n s : Nat} (hs : s < l.length) (hn : 0 < n) : laidAt l n (s + 1) = if at0 l s = n then (laidAt l n s).set s (codeAt l n s) else laidAt l n s := by
  apply List.ext_getElem?
  intro k
  by_cases hk : k < l.length
  · rw [laidAt_get hk]
    by_cases he : at0 l s = n
    · rw [if_pos he, List.getElem?_set]
      by_cases h : s = k
      · subst h
        rw [if_pos rfl, if_pos (show s < (laidAt l n s).length by rw [laidAt_len]; exact hs)]
        rw [if_pos (show 0 < at0 l s ∧ (at0 l s < n ∨ at0 l s = n ∧ s < s + 1) by omega)]
        unfold codeOf
        rw [if_pos (show 0 < at0 l s by omega), he]; simp
      · rw [if_neg h, laidAt_get hk]
        congr 1
        exact ite_iff (fun hh => by omega) (fun hh => by omega)
    · rw [if_neg he, laidAt_get hk]
      congr 1
      by_cases h : k = s
      · subst h
        have : ¬ (at0 l k = n ∧ k < k + 1) := fun e => he e.1
        have h2 : ¬ (at0 l k = n ∧ k < k) := fun e => he e.1
        simp only [this, h2]
      · exact ite_iff (fun hh => by omega) (fun hh => by omega)
  · have h1 : l.length ≤ k := by omega
    rw [List.getElem?_eq_none (by rw [laidAt_len]; exact h1)]
    by_cases he : at0 l s = n
    · rw [if_pos he, List.getElem?_eq_none (by rw [List.length_set, laidAt_len]; exact h1)]
    · rw [if_neg he, List.getElem?_eq_none (by rw [laidAt_len]; exact h1)]
theorem laidAt_next (l : List Int) (n : Nat) : laidAt l (n + 1) 0 = laidAt l n l.length := by
  unfold laidAt
  refine List.map_congr_left fun k hk => ?_
  have hk' : k < l.length := by simpa using hk
  congr 1
  apply propext
  constructor
  · rintro ⟨h1, h2⟩; exact ⟨h1, by omega⟩
  · rintro ⟨h1, h2⟩; exact ⟨h1, by omega⟩
theorem laidAt_start (l : List Int) : laidAt l 1 0 = List.replicate l.length 0 := by
  apply List.ext_getElem?
  intro k
  by_cases hk : k < l.length
  · rw [laidAt_get hk, if_neg (by omega)]; simp [hk]
  · rw [List.getElem?_eq_none (by rw [laidAt_len]; omega), List.getElem?_eq_none (by simp; omega)]
theorem laidAt_end {l : List Int} (h : ∀ k, at0 l k ≤ 11) : laidAt l 12 0 = codes l := by
  apply List.ext_getElem?
  intro k
  by_cases hk : k < l.length
  · rw [laidAt_get hk]
    simp only [codes, List.getElem?_map, List.getElem?_range hk, Option.map_some]
    congr 1
    have := h k
    by_cases hp : 0 < at0 l k
    · rw [if_pos ⟨hp, by omega⟩]
    · rw [if_neg (by omega)]; unfold codeOf; rw [if_neg hp]
  · rw [List.getElem?_eq_none (by rw [laidAt_len]; omega), List.getElem?_eq_none (by simp [codes]; omega)]
theorem code_bd {l : List Int} (h : ∀ k, 0 ≤ at0 l k ∧ at0 l k ≤ 11) (hl : l.length ≤ 256) {n s : Nat} (h1 : 1 ≤ n) (h2 : n ≤ 11) (hs : s ≤ l.length) : 0 ≤ codeAt l n s ∧ codeAt l n s ≤ 262144 := by
  have he := codeAt_ahead (l := l) n h1 h2 s hs
  have ha := ahead_nonneg l n s
  have ht := ahead_total l n s
  have hb := tot_bd (l := l) l.length fun k _ => (h k).2
  have hp := part_pos (n : Int)
  have ht2 : total l = sumTo (taken l) l.length := rfl
  constructor
  · rcases Int.lt_or_le (codeAt l n s) 0 with h3 | h3
    · have : codeAt l n s * part n < 0 := Int.mul_neg_of_neg_of_pos h3 hp
      omega
    · exact h3
  · rcases Int.lt_or_le 262144 (codeAt l n s) with h3 | h3
    · have h4 : codeAt l n s * 1 ≤ codeAt l n s * part n := Int.mul_le_mul_of_nonneg_left (by omega) (by omega)
      omega
    · exact h3
/-- numbers in a block of their own -/
def Own (H : Heap) (b : Nat) (l : List Int) : Prop := H.get b = .cells (ints l) 3 true
section
variable {H : Heap} {a : Option Addr} {c : Nat} {l : List Int}
structure CI (N : Nat) (H0 : Heap) (a : Option Addr) (c : Nat) (l : List Int) (n s : Nat) (e : Fe) (H : Heap) : Prop where
  kp : Kp N H0 H
  own : Own H N (laidAt l n s)
  e0 : e 0 = .slice a l.length c
  e4 : e 4 = .slice (some ⟨N, 0, none⟩) l.length l.length
  e5 : e 5 = .int .i64 (codeAt l n s)
  e6 : e 6 = .int .i64 n
theorem codesIn_t {H0 : Heap} {N n : Nat} {e : Fe} {Q : Kx} (hl : Iv H0 a l) (hN : H0.next = N) (hr : rightB l = true) (h1 : 1 ≤ n) (h2 : n ≤ 11) (hc : CI N H0 a c l n 0 e H) (e19 : e 19 = .slice a l.length c) (e20 : e 20 = .int .i64 l.length) (e21 : e 21 = .int .i64 0)
    (hQ : ∀ e' H', CI N H0 a c l n l.length e' H' → Q (.exit 2) e' H') : WL S b70_1 e H Q := by
  have hlen := right_len hr
  have hall := right_all hr
  refine l70_1 S (fun d e H => ∃ s : Nat, s ≤ l.length ∧ d = l.length - s ∧ CI N H0 a c l n s e H ∧ e 19 = .slice a l.length c ∧ e 20 = .int .i64 l.length ∧ e 21 = .int .i64 s) l.length ⟨0, by omega, by omega, hc, e19, e20, e21⟩ ?_
  rintro d e H ⟨s, hs, rfl, ⟨hk, ho, e0, e4, e5, e6⟩, e19, e20, e21⟩
  by_cases h3 : s < l.length
  · obtain ⟨b, o, cs, rw, rfl, hg0, hcs⟩ := hl (by omega)
    have hg := (hk.2 b (by rw [← hN]; exact lt_cells hg0)).trans hg0
    obtain ⟨x, hx⟩ : ∃ x, l[s]? = some x := ⟨_, List.getElem?_eq_getElem h3⟩
    have hcx := hcs s x hx
    have hax := at0_of hx
    have hw : IntKind.i64.wrap ((s : Int) + 1) = (s : Int) + 1 := wi (by omega) (by omega)
    have hcb := code_bd hall hlen h1 h2 (show s ≤ l.length by omega)
    have hsu := laidAt_succ (n := n) h3 h1
    have hca : codeAt l n (s + 1) = codeAt l n s + if at0 l s = n then 1 else 0 := by
      cases n with
      | zero => omega
      | succ n => simp [codeAt]
    by_cases g : x = n
    · have hw2 : IntKind.i64.wrap (codeAt l n s + 1) = codeAt l n s + 1 := wi (by omega) (by omega)
      have hlt := lt_cells ho
      have hkst : kSt H (.pointer (some ⟨N, s, none⟩)) (.int .i64 (codeAt l n s)) = some (H.put N (.cells (ints (laidAt l n (s + 1))) 3 true)) := by
        have ho' : H.get N = .cells (ints (laidAt l n s)) 3 true := ho
        rw [hsu, if_pos (by rw [hax, g])]
        simp [kSt, ho', oneC, ints, laidAt_len, h3, List.map_set]
      simp [s70_1, e0, e4, e5, e6, e19, e20, e21, h3, addOff, hg, hcx, g, hw, hw2, hkst]
      refine ⟨l.length - (s + 1), by omega, s + 1, by omega, rfl, ⟨hk.trans (Kp.put (Nat.le_refl _)), get_put_eq hlt, by simp [e0], by simp [e4], ?_, by simp [e6]⟩, by simp⟩
      rw [hca, if_pos (by rw [hax, g])]; simp
    · simp [s70_1, e0, e4, e5, e6, e19, e20, e21, h3, addOff, hg, hcx, g, hw]
      refine ⟨l.length - (s + 1), by omega, s + 1, by omega, rfl, ⟨hk, ?_, by simp [e0], by simp [e4], ?_, by simp [e6]⟩, by simp⟩
      · rw [hsu, if_neg (by rw [hax]; exact g)]; exact ho
      · rw [hca, if_neg (by rw [hax]; exact g)]; simp [e5]
  · have h5 : s = l.length := by omega
    subst h5
    simp [s70_1, e20, e21]
    exact hQ _ _ ⟨hk, ho, by simp [e0], by simp [e4], by simp [e5], by simp [e6]⟩
/-- numbers, as a slice of a block of its own -/
theorem Codes_t {H : Heap} {a : Option Addr} {c : Nat} {l : List Int} (hl : Iv H a l) (hm : (l.length : Int) ≤ 9223372036854775807) :
    Wf S 70 [.slice a l.length c] H fun v H' => Kp H.next H H' ∧ ((wholeB l = false ∧ v = .tuple #[.slice none 0 0, .bool false]) ∨ (wholeB l = true ∧ ∃ b, v = .tuple #[.slice (some ⟨b, 0, none⟩) l.length l.length, .bool true] ∧ H.next ≤ b ∧ Own H' b (codes l))) := by
  refine w70 rfl rfl _ ?_
  simp [s70]
  refine (Whole_t hl hm).mono ?_
  rintro v H1 ⟨rfl, rfl⟩
  by_cases hw : wholeB l = true
  · have hr : rightB l = true := by simp only [wholeB, Bool.and_eq_true] at hw; exact hw.1
    have hlen := right_len hr
    have hall := right_all hr
    have m1 : (l.length : Int) ≤ 9223372036854775807 := by omega
    have m2 : 8 * (l.length : Int) ≤ 281474976710656 := by omega
    simp [hw, kMks, m1, m2]
    refine l70_0 S (fun d e H => ∃ n : Nat, 1 ≤ n ∧ n ≤ 12 ∧ d = 12 - n ∧ Kp H1.next H1 H ∧ Own H H1.next (laidAt l n 0) ∧ e 0 = .slice a l.length c ∧ e 4 = .slice (some ⟨H1.next, 0, none⟩) l.length l.length ∧ e 5 = .int .i64 (codeAt l n 0) ∧ e 6 = .int .i64 n) 11 ⟨1, by omega, by omega, by omega, Kp.push (Nat.le_refl _), ?_, by simp, by simp, by simp [codeAt], by simp⟩ ?_
    · unfold Own
      rw [get_last, laidAt_start]
      simp [ints, zeros]
    rintro d e H ⟨n, hn1, hn2, rfl, hk, ho, e0, e4, e5, e6⟩
    by_cases h11 : n ≤ 11
    · have h11' : (n : Int) ≤ 11 := by omega
      simp [s70_0, e0, e4, e5, e6, h11, h11']
      refine codesIn_t (N := H1.next) (H0 := H1) (n := n) (c := c) hl rfl hr hn1 h11 ⟨hk, ho, by simp [e0], by simp [e4], by simp [e5], by simp [e6]⟩ (by simp) (by simp) (by simp) ?_
      intro e' H' ⟨hk', ho', f0, f4, f5, f6⟩
      have hcb := code_bd hall hlen hn1 h11 (Nat.le_refl l.length)
      have hw1 : IntKind.i64.wrap ((n : Int) + 1) = (n : Int) + 1 := wi (by omega) (by omega)
      have hw2 : IntKind.i64.wrap (codeAt l n l.length * 2 ^ min 1 IntKind.i64.bits) = codeAt l n l.length * 2 := by
        have hb : min 1 IntKind.i64.bits = 1 := by decide
        rw [hb, Int.pow_one]; exact wi (by omega) (by omega)
      simp [f0, f4, f5, f6, kb_shl, hw1, hw2]
      refine ⟨12 - (n + 1), by omega, n + 1, by omega, by omega, rfl, hk', ?_, ?_, by omega⟩
      · rw [laidAt_next]; exact ho'
      · simp [codeAt]; omega
    · have h5 : n = 12 := by omega
      subst h5
      simp [s70_0, e4, e6, tup]
      refine ⟨hk, ?_⟩
      rw [← laidAt_end fun k => (hall k).2]; exact ho
  · have hw' : wholeB l = false := by simpa using hw
    simp [hw', tup]
    exact Kp.refl _ _
end
end Go.Proofs.Ytlboioplemlneaa.K
/- Reading numbers and texts from bytes: what the program's reader does. -/
set_option maxRecDepth 100000
set_option maxHeartbeats 2000000
set_option linter.unusedVariables false
set_option linter.unusedSimpArgs false
namespace Go.Proofs.Ytlboioplemlneaa.K
open Go Go.Proofs
/-- a reader: what is left, and whether it is bad -/
def RdB (l : Bytes) (bad : Bool) : Blk := .cells [.string (ofL l), .bool bad] 134 true
def Rd (H : Heap) (b : Nat) (l : Bytes) (bad : Bool) : Prop := H.get b = RdB l bad
theorem Rd.lt {H : Heap} {b : Nat} {l : Bytes} {bad : Bool} (h : Rd H b l bad) : b < H.next := lt_cells h
theorem rd_put {H : Heap} {b : Nat} {l : Bytes} {bad : Bool} (h : b < H.next) : Rd (H.put b (RdB l bad)) b l bad := get_put_eq h
section
variable {H : Heap} {b : Nat} {l : Bytes} {bad : Bool}
theorem curNew_t (l : Bytes) : Wf S 49 [.string (ofL l)] H fun v H' => v = .pointer (some ⟨H.next, 0, none⟩) ∧ H' = H.push (RdB l false) := by
  refine w49 rfl rfl _ ?_
  simp [s49, kFill, evPs, isTup, cellsL, wr, RdB]
theorem Bad_t (h : Rd H b l bad) : Wf S 101 [.pointer (some ⟨b, 0, none⟩)] H fun v H' => H' = H ∧ v = .bool bad := by
  refine w101 rfl rfl _ ?_
  have h' : H.get b = .cells [.string (ofL l), .bool bad] 134 true := h
  simp [s101, kEq, addOff, h']
theorem fail_t (h : Rd H b l bad) : Wf S 126 [.pointer (some ⟨b, 0, none⟩)] H fun v H' => H' = H.put b (RdB [] true) := by
  refine w126 rfl rfl _ ?_
  have h' : H.get b = .cells [.string (ofL l), .bool bad] 134 true := h
  have hlt := h.lt
  simp [s126, kEq, addOff, kSt, h', oneC, get_put_eq hlt, put_put, RdB, bs_ofL]
/-- what a reader gives of n bytes, and what it is then -/
def rawOut (l : Bytes) (bad : Bool) (n : Nat) : Bytes := if bad = true ∨ l.length < n then [] else l.take n
def rawL (l : Bytes) (bad : Bool) (n : Nat) : Bytes := if bad = true ∨ l.length < n then [] else l.drop n
def rawB (l : Bytes) (bad : Bool) (n : Nat) : Bool := bad || decide (l.length < n)
theorem Raw_t (h : Rd H b l bad) (n : Int) : Wf S 102 [.pointer (some ⟨b, 0, none⟩), .int .i64 n] H fun v H' => v = .string (ofL (rawOut l bad n.toNat)) ∧ H' = H.put b (RdB (rawL l bad n.toNat) (rawB l bad n.toNat)) := by
  refine w102 rfl rfl _ _ ?_
  have h' : H.get b = .cells [.string (ofL l), .bool bad] 134 true := h
  have hlt := h.lt
  have hmx : max n 0 = (n.toNat : Int) := by omega
  generalize n.toNat = k at hmx
  simp [s102, hmx]
  refine (Bad_t h).mono ?_
  rintro v H1 ⟨rfl, rfl⟩
  cases bad with
  | true =>
    simp
    refine (fail_t h).mono ?_
    rintro v H2 rfl
    simp [rawOut, rawL, rawB, bs_ofL]
  | false =>
    by_cases g : l.length < k
    · have g' : (l.length : Int) < k := by omega
      simp [addOff, h', ofL_size, g, g']
      refine (fail_t h).mono ?_
      rintro v H2 rfl
      simp [rawOut, rawL, rawB, bs_ofL, g]
    · have g' : ¬ (l.length : Int) < k := by omega
      have g2 : k ≤ l.length := by omega
      have g3 : (k : Int) ≤ l.length := by omega
      simp [addOff, h', ofL_size, g, g', s_upto, s_from, g2, g3, kSt, oneC]
      simp [rawOut, rawL, rawB, g, RdB]
theorem Rest_t (h : Rd H b l bad) : Wf S 57 [.pointer (some ⟨b, 0, none⟩)] H fun v H' => v = .string (ofL (if bad then [] else l)) ∧ H' = if bad then H else H.put b (RdB [] false) := by
  refine w57 rfl rfl _ ?_
  have h' : H.get b = .cells [.string (ofL l), .bool bad] 134 true := h
  simp [s57]
  refine (Bad_t h).mono ?_
  rintro v H1 ⟨rfl, rfl⟩
  cases bad with
  | true => simp [bs_ofL]
  | false =>
    simp [addOff, h', ofL_size]
    refine (Raw_t h _).mono ?_
    rintro v H2 ⟨rfl, rfl⟩
    simp [rawOut, rawL, rawB]
theorem size_t (H : Heap) (n : Int) : Wf S 105 [.int .i64 n] H fun v H' => H' = H ∧ v = .int .i64 (min (max n 0) 8) := by
  refine w105 rfl rfl _ ?_
  simp [s105]
theorem kb_or {k : IntKind} {a b : Int} : kBin .or (.int k a) (.int k b) = some (.int k (k.wrap (BitVec.ofInt k.bits a ||| BitVec.ofInt k.bits b).toNat)) := by simp [kBin, kInt]
theorem kb_and {k : IntKind} {a b : Int} : kBin .and (.int k a) (.int k b) = some (.int k (k.wrap (BitVec.ofInt k.bits a &&& BitVec.ofInt k.bits b).toNat)) := by simp [kBin, kInt]
theorem wu64 {x : Int} (h0 : 0 ≤ x) (h1 : x < 18446744073709551616) : IntKind.u64.wrap x = x := by
  simp [IntKind.wrap, IntKind.signed, IntKind.bits]; omega
/-- one byte, as a number; 0 if there is none -/
theorem Fixed1_t (h : Rd H b l bad) : Wf S 99 [.pointer (some ⟨b, 0, none⟩), .int .i64 1] H fun v H' => v = .int .u64 ((rawOut l bad 1).headD 0).toNat ∧ Rd H' b (rawL l bad 1) (rawB l bad 1) ∧ H.next ≤ H'.next ∧ ∀ k, k < H.next → k ≠ b → H'.get k = H.get k := by
  refine w99 rfl rfl _ _ ?_
  simp [s99]
  refine (size_t H 1).mono ?_
  rintro v H1 ⟨rfl, rfl⟩
  try simp
  refine (Raw_t h _).mono ?_
  rintro v H2 ⟨rfl, rfl⟩
  have e1 : (min (max 1 0) 8 : Int).toNat = 1 := by decide
  rw [e1]
  have hlt := h.lt
  have hrd := rd_put (l := rawL l bad 1) (bad := rawB l bad 1) hlt
  have hlen : (rawOut l bad 1).length ≤ 1 := by unfold rawOut; split <;> simp; omega
  rw [s_s2b (by unfold roomMax; omega)]
  have hold : ∀ k, k < H1.next → k ≠ b → (H1.put b (RdB (rawL l bad 1) (rawB l bad 1))).get k = H1.get k := fun k _ hk => get_put_ne hk
  have hnx : (H1.put b (RdB (rawL l bad 1) (rawB l bad 1))).next = H1.next := next_put
  generalize H1.put b (RdB (rawL l bad 1) (rawB l bad 1)) = H3 at *
  simp
  cases ho : rawOut l bad 1 with
  | nil =>
    refine u99_0 S ?_
    simp [s99_0]
    refine ⟨?_, by omega, fun k hk hkb => by rw [if_pos (by omega)]; exact hold k hk hkb⟩
    unfold Rd; rw [get_old (by omega)]; exact hrd
  | cons c cs =>
    have hcs : cs = [] := by rw [ho] at hlen; cases cs with | nil => rfl | cons _ _ => simp at hlen
    subst hcs
    have hz : IntKind.i64.wrap 0 = 0 := by decide
    have hmin : min 0 IntKind.u64.bits = 0 := by decide
    have hc : c.toNat < 256 := c.toNat_lt
    have hwu : IntKind.u64.wrap (c.toNat : Int) = c.toNat := wu64 (by omega) (by omega)
    have hor : IntKind.u64.wrap ((c.toNat : Int) % 2 ^ IntKind.u64.bits) = c.toNat := by
      have : ((c.toNat : Int) % 2 ^ IntKind.u64.bits) = c.toNat := by
        have : IntKind.u64.bits = 64 := rfl
        rw [this]; omega
      rw [this]; exact hwu
    have hw1 : IntKind.i64.wrap 1 = 1 := by decide
    refine u99_0 S ?_
    simp [s99_0, addOff, bvs, bv, kb_shl, kb_or, hz, hmin, hwu, hor, hw1]
    refine u99_0 S ?_
    simp [s99_0]
    refine ⟨?_, by omega, fun k hk hkb => by rw [if_pos (by omega)]; exact hold k hk hkb⟩
    unfold Rd; rw [get_old (by omega)]; exact hrd
end
end Go.Proofs.Ytlboioplemlneaa.K
/- Numbers that may be read, and cut. -/
set_option maxRecDepth 100000
set_option maxHeartbeats 2000000
set_option linter.unusedVariables false
set_option linter.unusedSimpArgs false
namespace Go.Proofs.Ytlboioplemlneaa.K
open Go Go.Proofs
/-- numbers that may be read, and cut -/
def Is (H : Heap) (v : Value) (l : List Int) : Prop := (v = .slice none 0 0 ∧ l = []) ∨ ∃ b o c cs rw, v = .slice (some ⟨b, o, none⟩) l.length c ∧ (c = capx ∨ l.length ≤ c) ∧ H.get b = .cells cs 3 rw ∧ ∀ (i : Nat) x, l[i]? = some x → cs[o + i]? = some (.int .i64 x)
theorem Is.kp {H H' : Heap} {v : Value} {l : List Int} (h : Is H v l) (hk : Kp H.next H H') : Is H' v l := by
  rcases h with h | ⟨b, o, c, cs, rw, h1, h2, h3, h4⟩
  · exact .inl h
  · exact .inr ⟨b, o, c, cs, rw, h1, h2, (hk.2 b (lt_cells h3)).trans h3, h4⟩
theorem Is.iv {H : Heap} {v : Value} {l : List Int} (h : Is H v l) : ∃ a c, v = .slice a l.length c ∧ Iv H a l := by
  rcases h with ⟨rfl, rfl⟩ | ⟨b, o, c, cs, rw, h1, h2, h3, h4⟩
  · exact ⟨none, 0, rfl, fun h => by simp at h⟩
  · exact ⟨_, _, h1, fun _ => ⟨b, o, cs, rw, rfl, h3, h4⟩⟩
theorem run_slc0 {S : Sys} {H : Heap} {K : Kv} {b o n c : Nat} {cs : List Value} {t : TypeId} {rw : Bool} {m : Nat} (hc : c = capx ∨ n ≤ c) (hg : H.get b = .cells cs t rw) (hm : m ≤ n) :
    run S (.slc t 1 (.c (.slice (some ⟨b, o, none⟩) n c)) none (some (.c (.int .i64 m)))) [] H K = K (.slice (some ⟨b, o, none⟩) m (if c = capx then capx else c)) H := by
  show oT ((kSlc H t 1 (.slice (some ⟨b, o, none⟩) n c) 0 (some (m : Int))).map (·, H)) K = _
  simp only [kSlc, hg, if_true, Option.getD_some, addOff]
  by_cases h : c = capx
  · subst h
    simp [hm]
  · have h2 : n ≤ c := hc.resolve_left h
    have h3 : (0 : Int) ≤ m ∧ (m : Int) ≤ c := by omega
    simp [h]
    split
    · rename_i h0
      simp
    · rename_i h0; omega
theorem run_slcF {S : Sys} {H : Heap} {K : Kv} {b o n c : Nat} {cs : List Value} {t : TypeId} {rw : Bool} {m : Nat} (hc : c = capx ∨ n ≤ c) (hg : H.get b = .cells cs t rw) (hm : m ≤ n) :
    run S (.slc t 1 (.c (.slice (some ⟨b, o, none⟩) n c)) (some (.c (.int .i64 m))) none) [] H K = K (.slice (some ⟨b, if c ≠ capx ∧ m = c then o else o + m, none⟩) (n - m) (if c = capx then capx else c - m)) H := by
  show oT ((kSlc H t 1 (.slice (some ⟨b, o, none⟩) n c) (m : Int) none).map (·, H)) K = _
  simp only [kSlc, hg, if_true, Option.getD_none, addOff]
  by_cases h : c = capx
  · subst h
    have h1 : (0 : Int) ≤ m ∧ (m : Int) ≤ n ∧ (n : Int) ≤ n := by omega
    rw [if_pos rfl, if_pos h1]
    have h2 : ((n : Int) - m).toNat = n - m := by omega
    simp [h2]
  · have h2 : n ≤ c := hc.resolve_left h
    have h3 : (0 : Int) ≤ m ∧ (m : Int) ≤ n ∧ (n : Int) ≤ c := by omega
    rw [if_neg h, if_pos h3]
    have h2 : ((n : Int) - m).toNat = n - m := by omega
    by_cases h4 : m = c
    · simp [h, h2, h4]
    · simp [h, h2, h4]
theorem Is.cut {S : Sys} {H : Heap} {v : Value} {l : List Int} (h : Is H v l) {m : Nat} (hm : m ≤ l.length) : ∃ v', Is H v' (l.drop m) ∧ ∀ K : Kv, run S (.slc 3 1 (.c v) (some (.c (.int .i64 m))) none) [] H K = K v' H := by
  rcases h with ⟨rfl, rfl⟩ | ⟨b, o, c, cs, rw, rfl, h2, h3, h4⟩
  · have : m = 0 := by simpa using hm
    subst this
    exact ⟨.slice none 0 0, .inl ⟨rfl, rfl⟩, fun K => rfl⟩
  · refine ⟨_, ?_, fun K => run_slcF h2 h3 hm⟩
    refine .inr ⟨b, _, _, cs, rw, by rw [List.length_drop], ?_, h3, fun i x hx => ?_⟩
    · rw [List.length_drop]
      by_cases hc : c = capx
      · exact .inl (if_pos hc)
      · rw [if_neg hc]; right
        have := h2.resolve_left hc
        omega
    · rw [List.getElem?_drop] at hx
      have hlt : m + i < l.length := by
        rcases Nat.lt_or_ge (m + i) l.length with h | h
        · exact h
        · rw [List.getElem?_eq_none h] at hx; cases hx
      have := h4 _ x hx
      have e : ¬ (c ≠ capx ∧ m = c) := by
        rintro ⟨q1, q2⟩
        have := h2.resolve_left q1
        omega
      rw [if_neg e]
      rw [← this]; congr 1; omega
/-- the same, told of all heaps in which the numbers stand -/
theorem Is.cut2 {S : Sys} {H : Heap} {v : Value} {l : List Int} (h : Is H v l) {m : Nat} (hm : m ≤ l.length) : ∃ v', ∀ H', Is H' v l → Is H' v' (l.drop m) ∧ ∀ K : Kv, run S (.slc 3 1 (.c v) (some (.c (.int .i64 m))) none) [] H' K = K v' H' := by
  obtain ⟨v', h1, h2⟩ := h.cut (S := S) hm
  refine ⟨v', fun H' h' => ?_⟩
  obtain ⟨v2, q1, q2⟩ := h'.cut (S := S) hm
  have : v2 = v' := by
    rcases h with ⟨rfl, rfl⟩ | ⟨b, o, c, cs, rw, rfl, r2, r3, r4⟩
    · have : m = 0 := by simpa using hm
      subst this
      have e1 := h2 fun v _ => v = v'
      have e2 := q2 fun v _ => v = v'
      have a1 : (run S (.slc 3 1 (.c (.slice none 0 0)) (some (.c (.int .i64 (0 : Nat)))) none) [] H fun v _ => v = v') = ((Value.slice none 0 0) = v') := rfl
      have a2 : (run S (.slc 3 1 (.c (.slice none 0 0)) (some (.c (.int .i64 (0 : Nat)))) none) [] H' fun v _ => v = v') = ((Value.slice none 0 0) = v') := rfl
      rw [a1] at e1
      rw [a2] at e2
      rw [← e2, e1]
    · rcases h' with ⟨e, _⟩ | ⟨b', o', c', cs', rw', e, s2, s3, s4⟩
      · cases e
      · simp only [Value.slice.injEq] at e
        obtain ⟨e1, _, e2⟩ := e
        cases e1
        subst e2
        have e1 := h2 fun v _ => v = v'
        have e2 := q2 fun v _ => v = v'
        rw [run_slcF r2 r3 hm] at e1
        rw [run_slcF s2 s3 hm] at e2
        rw [← e2, e1]
  rw [← this]
  exact ⟨q1, q2⟩
end Go.Proofs.Ytlboioplemlneaa.K
/- The program's heap of nodes is a heap. -/
set_option maxRecDepth 100000
set_option maxHeartbeats 2000000
set_option linter.unusedVariables false
set_option linter.unusedSimpArgs false
namespace Go.Proofs.Ytlboioplemlneaa.K
open Go Go.Proofs
theorem inv_ld {S : Sys} {H : Heap} {K : Kv} {t : TypeId} {v x : Value} {name : String} {f : FuncId} {args : List Opd} (hM : S.M t name = some (f, .ld)) (hx : kLd H v = some x) : run S (.inv (.c (.iface t v)) name args) [] H K = Wf S f (x :: args.map (Env.ev [])) H K := by
  simp only [run, Env.ev, hM, recvOf, hx]
theorem inv_as {S : Sys} {H : Heap} {K : Kv} {t : TypeId} {v : Value} {name : String} {f : FuncId} {args : List Opd} (hM : S.M t name = some (f, .as)) : run S (.inv (.c (.iface t v)) name args) [] H K = Wf S f (v :: args.map (Env.ev [])) H K := by
  simp only [run, Env.ev, hM, recvOf]
theorem kop_ld {H : Heap} {v : Value} : kop (.ld (.c v)) [] H = (kLd H v).map (·, H) := rfl
def ptrN (x : Nt) : Value := .pointer (some ⟨x.b, 0, none⟩)
/-- the nodes that lie in the heap at p -/
structure Qn (H0 HB : Heap) (p : Nat) (H : Heap) (l : Array Nt) : Prop where
  kp : Kp H0.next H0 H
  hp : H0.next ≤ p
  sm : l.size ≤ 1000000
  v : ∃ b c cs, H0.next ≤ b ∧ H.get p = .cells [.slice (some ⟨b, 0, none⟩) l.size c] 159 true ∧ (c = capx ∨ (c = 0 ∧ l.size = 0)) ∧ H.get b = .cells cs 120 true ∧ l.size ≤ cs.length ∧ ∀ (i : Nat) x, l[i]? = some x → cs[i]? = some (ptrN x)
  nd : ∀ x ∈ l, Nd H x.b x.t
  kn : KN HB H
def a0N (p : Nat) : Value := .iface 157 (.pointer (some ⟨p, 0, none⟩))
def elN (x : Nt) : Value := .iface 120 (ptrN x)
def ElN (H : Heap) (x : Nt) : Prop := Nd H x.b x.t
section
variable {H0 HB H : Heap} {p : Nat} {l : Array Nt}
theorem Qn.step {H' : Heap} (h : Qn H0 HB p H l) (hk : Kp H.next H H') : Qn H0 HB p H' l := by
  obtain ⟨h1, h2, h3, ⟨b, c, cs, q1, q2, q3, q4, q5, q6⟩, h5, h6⟩ := h
  exact ⟨h1.trans (hk.mono h1.1), h2, h3, ⟨b, c, cs, q1, (hk.2 p (lt_cells q2)).trans q2, q3, (hk.2 b (lt_cells q4)).trans q4, q5, q6⟩, fun x hx => (h5 x hx).kn (KN.kp hk), h6.trans (KN.kp hk)⟩
theorem Qn.node {i : Nat} (h : Qn H0 HB p H l) (hi : i < l.size) : Nd H (ix l i).b (ix l i).t := h.nd _ (by
  have := Array.mem_of_getElem? (ix_get hi)
  exact this)
/-- from here on all nodes are kept -/
theorem Qn.re (h : Qn H0 HB p H l) : Qn H0 H p H l := ⟨h.kp, h.hp, h.sm, h.v, h.nd, KN.refl H⟩
theorem Qn.of {HA : Heap} (h : Qn H0 HB p H l) (hk : KN HA HB) : Qn H0 HA p H l := ⟨h.kp, h.hp, h.sm, h.v, h.nd, hk.trans h.kn⟩
theorem len_q (h : Qn H0 HB p H l) (K : Kv) (hK : K (.int .i64 l.size) H) : run S (.inv (.c (a0N p)) "Len" []) [] H K := by
  obtain ⟨b, c, cs, q1, q2, q3, q4, q5, q6⟩ := h.v
  unfold a0N
  rw [inv_ld (f := 119) (x := .slice (some ⟨b, 0, none⟩) l.size c) rfl (by simp [q2])]
  refine w119 rfl rfl _ ?_
  simpa [s119] using hK
theorem less_q {i j : Nat} (h : Qn H0 HB p H l) (hi : i < l.size) (hj : j < l.size) (K : Kv) (hK : ∀ H', Qn H0 HB p H' l → K (.bool (ltN (ix l i) (ix l j))) H') : run S (.inv (.c (a0N p)) "Less" [.c (.int .i64 i), .c (.int .i64 j)]) [] H K := by
  obtain ⟨b, c, cs, q1, q2, q3, q4, q5, q6⟩ := h.v
  unfold a0N
  rw [inv_ld (f := 170) (x := .slice (some ⟨b, 0, none⟩) l.size c) rfl (by simp [q2])]
  have ci := q6 i _ (ix_get hi)
  have cj := q6 j _ (ix_get hj)
  obtain ⟨_, _, _, ni⟩ := (h.node hi).get
  obtain ⟨_, _, _, nj⟩ := (h.node hj).get
  generalize ix l i = x at *
  generalize ix l j = y at *
  refine w170 rfl rfl _ _ _ ?_
  simp [s170, hi, hj, addOff, q4, ci, cj, ni, nj, ptrN, Env.ev]
  refine (Compare_t _ _).mono ?_
  rintro v H1 ⟨rfl, rfl⟩
  simp [addOff, q4, ci, cj, ni, nj, ptrN, ck, veq, veq1, kop_ld]
  refine (Compare_t _ _).mono ?_
  rintro v H1 ⟨rfl, rfl⟩
  simp [kFill, evPs, isTup, cellsL, wr]
  refine (Or_t get_last).mono ?_
  rintro v H1 ⟨rfl, rfl⟩
  have hb : kBin .lss (.int .i64 (if cmpI x.t.w y.t.w = 0 then cmpI x.t.o y.t.o else cmpI x.t.w y.t.w)) (.int .i64 0) = some (.bool (ltN x y)) := by
    show some (Value.bool (decide _)) = _
    congr 2
    rw [Bool.eq_iff_iff, decide_eq_true_eq]
    simp only [ltN, cmpI, Bool.or_eq_true, Bool.and_eq_true, decide_eq_true_eq]
    split <;> split <;> omega
  have := hK _ (h.step (Kp.push (b := .cells [.int .i64 (cmpI x.t.w y.t.w), .int .i64 (cmpI x.t.o y.t.o)] 3 true) (Nat.le_refl _)))
  rw [hb]
  simp
  exact this
theorem swap_q {i j : Nat} (hi : i < l.size) (hj : j < l.size) (h : Qn H0 HB p H l) (K : Kv) (hK : ∀ v H', Qn H0 HB p H' (l.swap i j hi hj) → K v H') : run S (.inv (.c (a0N p)) "Swap" [.c (.int .i64 i), .c (.int .i64 j)]) [] H K := by
  obtain ⟨b, c, cs, q1, q2, q3, q4, q5, q6⟩ := h.v
  unfold a0N
  rw [inv_ld (f := 173) (x := .slice (some ⟨b, 0, none⟩) l.size c) rfl (by simp [q2])]
  have ci := q6 i _ (ix_get hi)
  have cj := q6 j _ (ix_get hj)
  have hic : i < cs.length := by omega
  have hjc : j < cs.length := by omega
  have hlt := lt_cells q4
  have s1 : kSt H (.pointer (some ⟨b, i, none⟩)) (ptrN (ix l j)) = some (H.put b (.cells (cs.set i (ptrN (ix l j))) 120 true)) := by
    simp [kSt, q4, hic, oneC, ptrN]
  have s2 : kSt (H.put b (.cells (cs.set i (ptrN (ix l j))) 120 true)) (.pointer (some ⟨b, j, none⟩)) (ptrN (ix l i)) = some (H.put b (.cells ((cs.set i (ptrN (ix l j))).set j (ptrN (ix l i))) 120 true)) := by
    simp [kSt, get_put_eq hlt, hjc, oneC, ptrN, put_put]
  have hn : Qn H0 HB p (H.put b (.cells ((cs.set i (ptrN (ix l j))).set j (ptrN (ix l i))) 120 true)) (l.swap i j hi hj) := by
    have hpb : p ≠ b := by
      rintro rfl
      rw [q2] at q4; simp at q4
    refine ⟨⟨by rw [next_put]; exact h.kp.1, fun k hk => (get_put_ne (by omega)).trans (h.kp.2 k hk)⟩, h.hp, by rw [Array.size_swap]; exact h.sm, ⟨b, c, _, q1, by rw [Array.size_swap, get_put_ne hpb]; exact q2, by rw [Array.size_swap]; exact q3, get_put_eq hlt, by rw [Array.size_swap]; simpa using q5, fun k x hx => ?_⟩, fun x hx => ?_, h.kn.trans (KN.put q4 (by decide))⟩
    · rw [Array.getElem?_swap] at hx
      have e1 : l[i]? = some l[i] := Array.getElem?_eq_getElem hi
      have e2 : l[j]? = some l[j] := Array.getElem?_eq_getElem hj
      have f1 : ix l i = l[i] := ix_of e1
      have f2 : ix l j = l[j] := ix_of e2
      rw [List.getElem?_set, List.getElem?_set, List.length_set, f1, f2]
      by_cases k1 : j = k
      · subst k1
        rw [if_pos rfl] at hx
        cases hx
        rw [if_pos rfl, if_pos hjc]
      · rw [if_neg k1] at hx
        rw [if_neg k1]
        by_cases k2 : i = k
        · subst k2
          rw [if_pos rfl] at hx
          cases hx
          rw [if_pos rfl, if_pos hic]
        · rw [if_neg k2] at hx
          rw [if_neg k2]
          exact q6 k x hx
    · have : x ∈ l := (Array.Perm.mem_iff (Array.swap_perm hi hj)).1 hx
      exact (h.nd x this).kn (KN.put q4 (by decide))
  refine w173 rfl rfl _ _ _ ?_
  simp [s173, hi, hj, addOff, q4, ci, cj, Env.ev, s1]
  rw [s2]
  simp
  exact hK _ _ hn
theorem pop_q {x : Nt} (h : Qn H0 HB p H (l.push x)) (K : Kv) (hK : ∀ H', Qn H0 HB p H' l → ElN H' x → K (elN x) H') : run S (.inv (.c (a0N p)) "Pop" []) [] H K := by
  obtain ⟨b, c, cs, q1, q2, q3, q4, q5, q6⟩ := h.v
  rw [Array.size_push] at q2 q3 q5
  have hc : c = capx := by omega
  subst hc
  have hsm := h.sm
  rw [Array.size_push] at hsm
  unfold a0N
  rw [inv_as (f := 171) rfl]
  have cx := q6 l.size x (by rw [Array.getElem?_push, if_pos rfl])
  have hlt := lt_cells q2
  have w1 : IntKind.i64.wrap (((l.size + 1 : Nat) : Int) - 1) = (l.size : Int) := by rw [wi (by omega) (by omega)]; omega
  have w1' : IntKind.i64.wrap ((l.size : Int) + 1 - 1) = (l.size : Int) := by rw [wi (by omega) (by omega)]; omega
  have hsl : ∀ {K : Kv}, run S (.slc 120 1 (.c (.slice (some ⟨b, 0, none⟩) (l.size + 1) capx)) none (some (.c (.int .i64 (l.size : Int))))) [] H K = K (.slice (some ⟨b, 0, none⟩) l.size capx) H := fun {K} => by
    rw [run_slc0 (.inl rfl) q4 (by omega)]; rfl
  have hpb : b ≠ p := by
    rintro rfl
    rw [q2] at q4; simp at q4
  have hn : Qn H0 HB p (H.put p (.cells [.slice (some ⟨b, 0, none⟩) l.size capx] 159 true)) l := by
    have hp := h.hp
    refine ⟨⟨by rw [next_put]; exact h.kp.1, fun k hk => (get_put_ne (by omega)).trans (h.kp.2 k hk)⟩, h.hp, by omega, ⟨b, capx, cs, q1, get_put_eq hlt, .inl rfl, (get_put_ne hpb).trans q4, by omega, fun k y hy => q6 k y ?_⟩, fun y hy => ?_, h.kn.trans (KN.put q2 (by decide))⟩
    · have := (Array.getElem?_eq_some_iff.1 hy).1
      rw [Array.getElem?_push, if_neg (by omega)]; exact hy
    · exact (h.nd y (Array.mem_push.2 (.inl hy))).kn (KN.put q2 (by decide))
  have hx : ElN (H.put p (.cells [.slice (some ⟨b, 0, none⟩) l.size capx] 159 true)) x := (h.nd x (Array.mem_push.2 (.inr rfl))).kn (KN.put q2 (by decide))
  have := hK _ hn hx
  refine w171 rfl rfl _ ?_
  have w2 : IntKind.i64.wrap (l.size : Int) = (l.size : Int) := wi (by omega) (by omega)
  simp [s171, q2, q4, addOff, w1, w1', w2, cx, hsl, kSt, oneC]
  exact ⟨by omega, this⟩
theorem app_q {x : Nt} (h : Qn H0 HB p H l) (hx : ElN H x) (hs : l.size < 1000000) : ∃ b c v' H2 H3, H.get p = .cells [.slice (some ⟨b, 0, none⟩) l.size c] 159 true ∧ kRow (H.push (.cells [ptrN x] 120 true)) 120 1 1 (some ⟨H.next, 0, none⟩) = some [ptrN x] ∧
    (H.push (.cells [ptrN x] 120 true)).get p = .cells [.slice (some ⟨b, 0, none⟩) l.size c] 159 true ∧
    kApp (H.push (.cells [ptrN x] 120 true)) 120 1 8 (.slice (some ⟨b, 0, none⟩) l.size c) 1 [ptrN x] = some (v', H2) ∧ kSt H2 (.pointer (some ⟨p, 0, none⟩)) v' = some H3 ∧ Qn H0 HB p H3 (l.push x) := by
  obtain ⟨b, c, cs, q1, q2, q3, q4, q5, q6⟩ := h.v
  have hp := h.hp
  have hkp := h.kp.1
  have hltp := lt_cells q2
  have hltb := lt_cells q4
  have hpb : p ≠ b := by
    rintro rfl
    rw [q2] at q4; simp at q4
  obtain ⟨H1, hH1⟩ : ∃ H1, H1 = H.push (.cells [ptrN x] 120 true) := ⟨_, rfl⟩
  have hk1 : Kp H.next H H1 := hH1 ▸ Kp.push (Nat.le_refl _)
  have g1 : H1.get b = .cells cs 120 true := (hk1.2 b hltb).trans q4
  have hrd : rd cs 0 l.size = some (cs.take l.size) := by
    unfold rd; rw [if_pos (by omega), List.drop_zero]
  -- the array behind
  have hap : ∃ H2, kApp H1 120 1 8 (.slice (some ⟨b, 0, none⟩) l.size c) 1 [ptrN x] = some (.slice (some ⟨H1.next, 0, none⟩) (l.size + 1) capx, H2) ∧ H2.next = H1.next + 1 ∧ H2.get H1.next = .cells (cs.take l.size ++ [ptrN x]) 120 true ∧ (∀ k, k < H1.next → k ≠ b → H2.get k = H1.get k) := by
    have hr : (l.size + 1) * 8 ≤ roomMax ∧ l.size + 1 ≤ roomMax := by unfold roomMax; omega
    rcases q3 with rfl | ⟨rfl, h0⟩
    · refine ⟨(H1.put b .dead).push (.cells (cs.take l.size ++ [ptrN x]) 120 true), ?_, by simp [next_put], ?_, fun k h1 h2 => ?_⟩
      · simp only [kApp, g1, hr, and_self, if_true, Nat.mul_one, hrd, Option.map_some, Nat.one_ne_zero, if_false]
      · have := get_last (H := H1.put b .dead) (b := .cells (cs.take l.size ++ [ptrN x]) 120 true)
        rw [next_put] at this; exact this
      · rw [get_old (by rw [next_put]; exact h1), get_put_ne h2]
    · have hx0 : ¬ (0 : Nat) = capx := by decide
      have hx1 : ¬ l.size + 1 ≤ 0 := by omega
      refine ⟨H1.push (.cells (cs.take l.size ++ [ptrN x]) 120 true), ?_, by simp, get_last, fun k h1 h2 => get_old h1⟩
      simp only [kApp, g1, hr, and_self, if_true, Nat.mul_one, hrd, Option.map_some, hx0, hx1, if_false]
  obtain ⟨H2, ha, hn2, hg2, hold⟩ := hap
  have hk12 := hk1.1
  have hgp : H2.get p = .cells [.slice (some ⟨b, 0, none⟩) l.size c] 159 true := by
    rw [hold p (by omega) hpb, hk1.2 p hltp]; exact q2
  have hkn : KN H (H2.put p (.cells [.slice (some ⟨H1.next, 0, none⟩) (l.size + 1) capx] 159 true)) := by
    refine ((KN.kp hk1).trans (B := H1) (C := H2) fun k cs' hk' => ?_).trans (KN.put hgp (by decide))
    refine hold k (lt_cells hk') ?_
    rintro rfl
    rw [g1] at hk'; simp at hk'
  have hn : Qn H0 HB p (H2.put p (.cells [.slice (some ⟨H1.next, 0, none⟩) (l.size + 1) capx] 159 true)) (l.push x) := by
    refine ⟨⟨by rw [next_put]; omega, fun k hk => ?_⟩, hp, by rw [Array.size_push]; omega, ⟨H1.next, capx, _, by omega, by rw [Array.size_push]; exact get_put_eq (by omega), .inl rfl, (get_put_ne (by omega)).trans hg2, by rw [Array.size_push]; simp; omega, fun k y hy => ?_⟩, fun y hy => ?_, h.kn.trans hkn⟩
    · rw [get_put_ne (by omega), hold k (by omega) (by omega), hk1.2 k (by omega)]; exact h.kp.2 k hk
    · rw [Array.getElem?_push] at hy
      have hl : (cs.take l.size).length = l.size := by simp; omega
      by_cases hks : k = l.size
      · subst hks
        rw [if_pos rfl] at hy
        cases hy
        rw [List.getElem?_append_right (by omega), hl]; simp
      · rw [if_neg hks] at hy
        have hkl := (Array.getElem?_eq_some_iff.1 hy).1
        rw [List.getElem?_append_left (by omega), List.getElem?_take, if_pos hkl]
        exact q6 k y hy
    · rcases Array.mem_push.1 hy with hy | rfl
      · exact (h.nd y hy).kn hkn
      · exact Nd.kn hkn hx
  have hrow : kRow H1 120 1 1 (some ⟨H.next, 0, none⟩) = some [ptrN x] := by
    rw [hH1]; simp [kRow, rd]
  have hq2 : H1.get p = .cells [.slice (some ⟨b, 0, none⟩) l.size c] 159 true := (hk1.2 p hltp).trans q2
  have hst : kSt H2 (.pointer (some ⟨p, 0, none⟩)) (.slice (some ⟨H1.next, 0, none⟩) (l.size + 1) capx) = some (H2.put p (.cells [.slice (some ⟨H1.next, 0, none⟩) (l.size + 1) capx] 159 true)) := by
    simp [kSt, hgp, oneC]
  exact ⟨b, c, _, H2, _, q2, hH1 ▸ hrow, hH1 ▸ hq2, hH1 ▸ ha, hst, hn⟩
theorem push_q {x : Nt} (h : Qn H0 HB p H l) (hx : ElN H x) (hs : l.size < 1000000) (K : Kv) (hK : ∀ v H', Qn H0 HB p H' (l.push x) → K v H') : run S (.inv (.c (a0N p)) "Push" [.c (elN x)]) [] H K := by
  obtain ⟨b, c, v', H2, H3, q2, hrow, hq2, ha, hst, hn⟩ := app_q h hx hs
  unfold a0N elN
  rw [inv_as (f := 172) rfl]
  have htas : ∀ {K : Kv}, run S (.tas 120 (.pointer none) true (.c (.iface 120 (ptrN x)))) [] H K = K (.tuple #[ptrN x, .bool true]) H := fun {K} => rfl
  have hit : isTup (ptrN x) = false := rfl
  have hcl : cellsL (ptrN x) = [ptrN x] := rfl
  refine w172 rfl rfl _ _ ?_
  simp [s172, q2, addOff, Env.ev, kFill, evPs, hit, hcl, wr, htas]
  rw [hrow]
  simp only [Option.bind_some, ha, oT_some, hst]
  exact hK _ _ hn
/-- the program's heap of nodes -/
theorem nodes_q : PQ2 ltN (a0N p) (Qn H0 HB p) elN ElN :=
  ⟨⟨fun H l h K hK => len_q h K hK, fun H l i j h hi hj K hK => less_q h hi hj K hK, fun H l i j hi hj h K hK => swap_q hi hj h K hK, fun H l h => h.sm⟩, fun H l x h hx hs K hK => push_q h hx hs K hK, fun H l x h K hK => pop_q h K hK⟩
end
end Go.Proofs.Ytlboioplemlneaa.K
/- The program's tree of counts. -/
set_option maxRecDepth 100000
set_option maxHeartbeats 4000000
set_option linter.unusedVariables false
set_option linter.unusedSimpArgs false
namespace Go.Proofs.Ytlboioplemlneaa.K
open Go Go.Proofs
/-- the symbols ahead of n that come, and how often -/
def lvs (l : List Int) : Nat → List (Nat × Nat)
  | 0 => []
  | n + 1 => if 0 < at0 l n then lvs l n ++ [(n, (at0 l n).toNat)] else lvs l n
theorem lvs_len (l : List Int) : ∀ n, (lvs l n).length ≤ n
  | 0 => by simp [lvs]
  | n + 1 => by
    have := lvs_len l n
    simp only [lvs]; split <;> simp <;> omega
def tsOf (q : Array Nt) : List T := q.toList.map (·.t)
theorem tsOf_push (q : Array Nt) (x : Nt) : tsOf (q.push x) = tsOf q ++ [x.t] := by simp [tsOf]
theorem tsOf_len (q : Array Nt) : (tsOf q).length = q.size := by simp [tsOf]
theorem tsOf_perm {q q' : Array Nt} (h : q.Perm q') : (tsOf q).Perm (tsOf q') := (Array.perm_iff_toList_perm.1 h).map _
theorem tsOf_mem {q : Array Nt} {t : T} (h : t ∈ tsOf q) : ∃ x ∈ q, x.t = t := by
  simp only [tsOf, List.mem_map, Array.mem_toList_iff] at h
  exact h
section
variable {H0 HB H : Heap} {p : Nat} {l : Array Nt}
theorem take_t (h : Qn H0 HB p H l) (h0 : 0 < l.size) (hf : HeapF ltN l 0 l.size) : Wf S 120 [.pointer (some ⟨p, 0, none⟩)] H fun v H' => ∃ x l', v = ptrN x ∧ ElN H' x ∧ Qn H0 HB p H' l' ∧ (l'.push x).Perm l ∧ HeapF ltN l' 0 l'.size ∧ ∀ y ∈ l', x.t.w ≤ y.t.w := by
  refine w120 rfl rfl _ ?_
  have hm : ∀ {K : Kv}, run S (.mki 157 (.c (.pointer (some ⟨p, 0, none⟩)))) [] H K = K (a0N p) H := fun {K} => rfl
  simp only [s120, hm]
  have hp := Pop_t nodes_q ltN_ord h h0 hf
  simp
  refine hp.mono ?_
  rintro v H1 ⟨x, l', rfl, h1, h2, h3, h4, h5⟩
  have htas : ∀ {K : Kv}, run S (.tas 120 (.pointer none) true (.c (elN x))) [] H1 K = K (.tuple #[ptrN x, .bool true]) H1 := fun {K} => rfl
  rw [htas]
  simp
  exact ⟨x, rfl, h1, l', h2, h3, h4, fun y hy => ltN_w (h5 y hy)⟩
end
section
variable {H : Heap} {a : Option Addr} {c : Nat} {l : List Int}
/-- the first loop: a leaf for each symbol that comes -/
structure LfI (H0 : Heap) (p : Nat) (a0 : Value) (l : List Int) (d : Nat) (e : Fe) (H : Heap) (i : Nat) (q : Array Nt) : Prop where
  hi : i ≤ l.length
  h2 : d = l.length - i
  qn : Qn H0 H0 p H q
  ts : tsOf q = (lvs l i).map fun x => .leaf x.2 x.1
  e4 : e 4 = .pointer (some ⟨p, 0, none⟩)
  e14 : e 14 = a0
  e15 : e 15 = .int .i64 l.length
  e16 : e 16 = .int .i64 i
/-- the second loop: two by two -/
structure TrI (H0 : Heap) (p : Nat) (L : List (Nat × Nat)) (d : Nat) (e : Fe) (H : Heap) (q : Array Nt) (k ic : Nat) : Prop where
  h2 : d = q.size
  pos : 0 < q.size
  hk : k + q.size = L.length
  qn : Qn H0 H0 p H q
  hf : HeapF ltN q 0 q.size
  wood : Wood (tsOf q)
  lv : ((tsOf q).flatMap T.lv).Perm L
  hic : ic = ((tsOf q).map T.ic).sum
  hb : ic ≤ k * (L.map (·.2)).sum
  hc : ∀ c, Hc ((tsOf q).map T.w) c → Hc (L.map (·.2)) (ic + c)
  e4 : e 4 = .pointer (some ⟨p, 0, none⟩)
  e7 : e 7 = .int .i64 ic
  e8 : e 8 = .int .i64 ((256 + k : Nat) : Int)
theorem lv_sum (l : List T) : ((l.flatMap T.lv).map (·.2)).sum = (l.map T.w).sum := by
  induction l with
  | nil => rfl
  | cons t l ih => simp only [List.flatMap_cons, List.map_append, List.sum_append, List.map_cons, List.sum_cons, T.lv_w, ih]
theorem leaf_lv (L : List (Nat × Nat)) : ((L.map fun x => T.leaf x.2 x.1).flatMap T.lv) = L := by
  induction L with
  | nil => rfl
  | cons x L ih => simp only [List.map_cons, List.flatMap_cons, ih]; rfl
theorem leaf_w (L : List (Nat × Nat)) : ((L.map fun x => T.leaf x.2 x.1).map T.w) = L.map (·.2) := by
  induction L with
  | nil => rfl
  | cons x L ih => simp only [List.map_cons, ih]; rfl
theorem leaf_ic (L : List (Nat × Nat)) : ((L.map fun x => T.leaf x.2 x.1).map T.ic).sum = 0 := by
  induction L with
  | nil => rfl
  | cons x L ih => simp only [List.map_cons, List.sum_cons, ih]; rfl
theorem lvs_pos (l : List Int) : ∀ n, ∀ x ∈ lvs l n, 1 ≤ x.2
  | 0, x, h => by simp [lvs] at h
  | n + 1, x, h => by
    simp only [lvs] at h
    split at h
    · rcases List.mem_append.1 h with h | h
      · exact lvs_pos l n x h
      · simp only [List.mem_singleton] at h; subst h; simp only; omega
    · exact lvs_pos l n x h
theorem leaf_wood {L : List (Nat × Nat)} (h : ∀ x ∈ L, 1 ≤ x.2) : Wood (L.map fun x => T.leaf x.2 x.1) := by
  refine ⟨fun x hx y hy z hz => ?_, fun x hx => ?_, fun x hx => ?_⟩ <;> obtain ⟨u, hu, rfl⟩ := List.mem_map.1 hx
  · simp [T.kids] at hz
  · trivial
  · exact h u hu
theorem sum_le {l : List Nat} {b : Nat} (h : ∀ x ∈ l, x ≤ b) : l.sum ≤ l.length * b := by
  induction l with
  | nil => simp
  | cons x l ih =>
    have := h x (by simp)
    have := ih (fun y hy => h y (by simp [hy]))
    simp only [List.sum_cons, List.length_cons, Nat.succ_mul]; omega
theorem lvs_le {l : List Int} (h : ∀ x ∈ l, 0 ≤ x ∧ x ≤ 1048576) (hb : ∀ i, 0 ≤ at0 l i ∧ at0 l i ≤ 1048576) : ∀ n, ∀ x ∈ lvs l n, x.2 ≤ 1048576
  | 0, x, hx => by simp [lvs] at hx
  | n + 1, x, hx => by
    simp only [lvs] at hx
    have := hb n
    split at hx
    · rcases List.mem_append.1 hx with hx | hx
      · exact lvs_le h hb n x hx
      · simp only [List.mem_singleton] at hx; subst hx; simp only; omega
    · exact lvs_le h hb n x hx
theorem ct_bd {l : List Int} (h : ∀ x ∈ l, 0 ≤ x ∧ x ≤ 1048576) (i : Nat) : 0 ≤ at0 l i ∧ at0 l i ≤ 1048576 := by
  cases hx : l[i]? with
  | none => unfold at0; rw [List.getD_eq_getElem?_getD, hx]; simp
  | some x => rw [at0_of hx]; exact h x (List.mem_of_getElem? hx)
theorem tree_t (hl : Iv H a l) (hlen : l.length ≤ 256) (hbd : ∀ x ∈ l, 0 ≤ x ∧ x ≤ 1048576) (hpos : 0 < (lvs l l.length).length) :
    Wf S 88 [.slice a l.length c] H fun v H' => Kp H.next H H' ∧ ∃ x : Nt, v = .tuple #[ptrN x, .int .i64 x.t.ic] ∧ ElN H' x ∧ x.t.sib ∧ x.t.pos ∧ x.t.lv.Perm (lvs l l.length) ∧ Hc ((lvs l l.length).map (·.2)) x.t.ic := by
  refine w88 rfl rfl _ ?_
  simp [s88, kFill, evPs, isTup, cellsL]
  obtain ⟨p, hp⟩ : ∃ p, p = H.next + 1 := ⟨_, rfl⟩
  obtain ⟨H1, hH1⟩ : ∃ H1, H1 = (H.push (.cells [] 120 true)).push (.cells [.slice (some ⟨H.next, 0, none⟩) 0 0] 159 true) := ⟨_, rfl⟩
  have hq1 : Qn H H p H1 #[] := by
    refine ⟨⟨by rw [hH1]; simp; omega, fun k hk => by rw [hH1, get_old (by simp; omega), get_old hk]⟩, by omega, by simp, ⟨H.next, 0, [], Nat.le_refl _, ?_, .inr ⟨rfl, rfl⟩, ?_, by simp, by simp⟩, by simp, fun k cs hk => ?_⟩
    · rw [hH1, hp]
      have := get_last (H := H.push (.cells [] 120 true)) (b := .cells [.slice (some ⟨H.next, 0, none⟩) 0 0] 159 true)
      simp
    · rw [hH1, get_old (by simp), get_last]
    · have := lt_cells hk
      rw [hH1, get_old (by simp; omega), get_old this]
  rw [← hH1, ← hp]
  refine l88_1 S (fun d e H' => ∃ i q, LfI H p (.slice a l.length c) l d e H' i q) l.length ⟨0, #[], by omega, by omega, hq1, rfl, by simp, by simp, by simp, by simp⟩ ?_
  rintro d e H2 ⟨i, q, hi, rfl, hq, hts, e4, e14, e15, e16⟩
  by_cases h3 : i < l.length
  · obtain ⟨b, o, cs, rw, rfl, hg, hc⟩ := (hl.kp hq.kp) (by omega)
    obtain ⟨x, hx⟩ : ∃ x, l[i]? = some x := ⟨_, List.getElem?_eq_getElem h3⟩
    have hcx := hc i x hx
    have hw : IntKind.i64.wrap ((i : Int) + 1) = (i : Int) + 1 := wi (by omega) (by omega)
    have hat := at0_of hx
    have hb := hbd x (List.mem_of_getElem? hx)
    by_cases h4 : 0 < x
    · obtain ⟨w, rfl⟩ : ∃ w : Nat, x = (w : Int) := ⟨x.toNat, by omega⟩
      have h4' : 0 < w := by omega
      obtain ⟨HN, hHN⟩ : ∃ HN, HN = H2.push (.cells [.int .i64 w, .int .i64 i, .int .i64 i, .pointer none, .pointer none] 124 true) := ⟨_, rfl⟩
      have hkN : Kp H2.next H2 HN := hHN ▸ Kp.push (Nat.le_refl _)
      have hxN : ElN HN ⟨H2.next, .leaf w i⟩ := by show HN.get H2.next = _; rw [hHN, get_last]
      have hqs : q.size < 1000000 := by
        have := lvs_len l i
        have h1 := congrArg List.length hts
        rw [tsOf_len, List.length_map] at h1
        omega
      obtain ⟨b2, c2, v', H3, H4, q2, hrow, hq2, ha, hst, hn⟩ := app_q (hq.step hkN) hxN hqs
      have hpl : p < H2.next := by
        obtain ⟨_, _, _, _, h2, _⟩ := hq.v
        exact lt_cells h2
      rw [hkN.2 p hpl] at q2
      have hNn : HN.next = H2.next + 1 := by rw [hHN]; simp
      have hyes : lvs l (i + 1) = lvs l i ++ [(i, w)] := by simp only [lvs]; rw [hat, if_pos h4]; simp
      rw [hNn] at hrow
      simp only [ptrN] at hrow ha
      simp [s88_1, e4, e14, e15, e16, h3, addOff, hg, hcx, h4, h4', kFill, evPs, isTup, cellsL, wr, q2, hw]
      rw [← hHN, hrow]
      simp only [Option.bind_some, ha, oT_some, hst]
      exact ⟨l.length - (i + 1), by omega, i + 1, _, by omega, rfl, hn, by rw [tsOf_push, hts, hyes, List.map_append]; rfl, by simp [e4], by simp [e14], by simp [e15], by simp⟩
    · have hno : lvs l (i + 1) = lvs l i := by simp only [lvs]; rw [hat, if_neg h4]
      simp [s88_1, e4, e14, e15, e16, h3, addOff, hg, hcx, h4, hw]
      exact ⟨l.length - (i + 1), by omega, i + 1, q, by omega, rfl, hq, by rw [hno]; exact hts, by simp [e4], by simp [e14], by simp [e15], by simp⟩
  · have h5 : i = l.length := by omega
    subst h5
    have hm : ∀ {K : Kv} {H : Heap}, run S (.mki 157 (.c (.pointer (some ⟨p, 0, none⟩)))) [] H K = K (a0N p) H := fun {K} {H} => rfl
    have hm2 : ∀ {K : Kv} {H : Heap} {b : Nat}, run S (.mki 120 (.c (.pointer (some ⟨b, 0, none⟩)))) [] H K = K (.iface 120 (.pointer (some ⟨b, 0, none⟩))) H := fun {K} {H} {b} => rfl
    obtain ⟨L, hL⟩ : ∃ L, L = lvs l l.length := ⟨_, rfl⟩
    rw [← hL] at hts hpos
    rw [← hL]
    have hLl : L.length ≤ 256 := by have := lvs_len l l.length; rw [hL]; omega
    have hLs : (L.map (·.2)).sum ≤ 268435456 := by
      have := sum_le (l := L.map (·.2)) (b := 1048576) (fun x hx => by
        obtain ⟨u, hu, rfl⟩ := List.mem_map.1 hx
        rw [hL] at hu
        exact lvs_le hbd (ct_bd hbd) _ u hu)
      rw [List.length_map] at this
      have : L.length * 1048576 ≤ 256 * 1048576 := Nat.mul_le_mul_right _ hLl
      omega
    simp [s88_1, e4, e14, e15, e16]
    rw [hm]
    have hin := Init_t nodes_q.pq ltN_ord hq
    refine hin.mono ?_
    rintro v H3 ⟨q1, hq1, hp1, hf1⟩
    have hsz : q1.size = q.size := by
      have := (Array.perm_iff_toList_perm.1 hp1).length_eq
      simpa using this
    have hqL : q.size = L.length := by rw [← tsOf_len, hts, List.length_map]
    have hpt := tsOf_perm hp1
    try simp
    refine l88_0 S (fun d e H' => ∃ q k ic, TrI H p L d e H' q k ic) q1.size ⟨q1, 0, 0, rfl, by omega, by omega, hq1, by rw [hsz]; exact hf1, (hts ▸ leaf_wood (hL ▸ lvs_pos l l.length)).perm hpt, ?_, ?_, by omega, ?_, by simp [e4], by simp, by simp⟩ ?_
    · have := (hpt.flatMap_right T.lv)
      rw [hts, leaf_lv] at this
      exact this
    · have := (hpt.map T.ic).sum_nat
      rw [hts, leaf_ic] at this
      exact this.symm
    · intro c hc
      have := hc.perm (hpt.map T.w).symm
      rw [hts, leaf_w] at this
      simpa using this
    clear hin hpt hsz hf1 hq1 hp1 hts hqL hq
    rintro d e H4 ⟨q2, k, ic, rfl, hp2, hk2, hq2, hf2, hw2, hlv2, hic2, hb2, hc2, e4, e7, e8⟩
    have hkk := hq2.kp
    obtain ⟨b, c2, cs, y1, y2, y3, y4, y5, y6⟩ := hq2.v
    by_cases h7 : 1 < q2.size
    · have h7' : (1 : Int) < q2.size := by omega
      have hlen : Wf S 119 [.slice (some ⟨b, 0, none⟩) q2.size c2] H4 fun v H' => v = .int .i64 q2.size ∧ H' = H4 := by
        refine w119 rfl rfl _ ?_
        simp [s119]
      simp [s88_0, e4, e7, e8, y2]
      refine hlen.mono ?_
      rintro v H5 ⟨rfl, rfl⟩
      simp [h7, h7', e4]
      refine (take_t hq2 hp2 hf2).mono ?_
      rintro v H6 ⟨x, q3, rfl, hx6, hq3, hp3, hf3, hl3⟩
      have hs3 : q3.size + 1 = q2.size := by
        have := (Array.perm_iff_toList_perm.1 hp3).length_eq
        simpa using this
      try simp [e4]
      refine (take_t hq3.re (by omega) hf3).mono ?_
      rintro v H7 ⟨y, q4, rfl, hy7, hq4, hp4, hf4, hl4⟩
      have hs4 : q4.size + 1 = q3.size := by
        have := (Array.perm_iff_toList_perm.1 hp4).length_eq
        simpa using this
      have hx7 : ElN H7 x := Nd.kn hq4.kn hx6
      have hq4' := hq4.of hq3.kn
      obtain ⟨_, _, _, gx⟩ := hx7.get
      obtain ⟨_, _, _, gy⟩ := hy7.get
      -- the trees as lists
      have t3 : (tsOf q2).Perm (x.t :: tsOf q3) := ((tsOf_perm hp3).symm.trans (by rw [tsOf_push])).trans (List.perm_append_singleton _ _)
      have t4 : (tsOf q3).Perm (y.t :: tsOf q4) := ((tsOf_perm hp4).symm.trans (by rw [tsOf_push])).trans (List.perm_append_singleton _ _)
      have t34 : (tsOf q2).Perm (x.t :: y.t :: tsOf q4) := t3.trans (t4.cons _)
      have mx : ∀ z ∈ y.t :: tsOf q4, x.t.w ≤ z.w := fun z hz => by
        obtain ⟨u, hu, rfl⟩ := tsOf_mem (t4.mem_iff.2 hz)
        exact hl3 u hu
      have my : ∀ z ∈ tsOf q4, y.t.w ≤ z.w := fun z hz => by
        obtain ⟨u, hu, rfl⟩ := tsOf_mem hz
        exact hl4 u hu
      have hWs : ((tsOf q2).map T.w).sum = (L.map (·.2)).sum := by
        rw [← lv_sum]; exact (hlv2.map _).sum_nat
      have hW2 : ((tsOf q2).map T.w).sum = x.t.w + (y.t.w + ((tsOf q4).map T.w).sum) := by
        have := (t34.map T.w).sum_nat
        simpa using this
      have hicb : ic ≤ 256 * 268435456 := Nat.le_trans hb2 (Nat.mul_le_mul (by omega) hLs)
      obtain ⟨w, hw⟩ : ∃ w, w = x.t.w + y.t.w := ⟨_, rfl⟩
      have w1 : IntKind.i64.wrap ((x.t.w : Int) + (y.t.w : Int)) = (w : Int) := by rw [wi (by omega) (by omega)]; omega
      have w2 : IntKind.i64.wrap ((ic : Int) + (w : Int)) = ((ic + w : Nat) : Int) := by rw [wi (by omega) (by omega)]; omega
      have w3 : IntKind.i64.wrap (((256 + k : Nat) : Int) + 1) = ((256 + (k + 1) : Nat) : Int) := by rw [wi (by omega) (by omega)]; omega
      obtain ⟨o, ho⟩ : ∃ o, o = 256 + k := ⟨_, rfl⟩
      rw [← ho] at w3 e8
      obtain ⟨HN, hHN⟩ : ∃ HN, HN = H7.push (.cells [.int .i64 w, .int .i64 o, .int .i64 (-1), ptrN x, ptrN y] 124 true) := ⟨_, rfl⟩
      have hkN : Kp H7.next H7 HN := hHN ▸ Kp.push (Nat.le_refl _)
      have hxN : ElN HN ⟨H7.next, .two o x.t y.t⟩ := by
        refine ⟨x.b, y.b, ?_, Nd.kn (KN.kp hkN) hx7, Nd.kn (KN.kp hkN) hy7⟩
        rw [hHN, get_last, hw]; rfl
      have hps := Push_t nodes_q ltN_ord (hq4'.step hkN) hf4 hxN (by have := hq4.sm; omega)
      simp [e4, e7, e8, ptrN, addOff, gx, gy, w1, kFill, evPs, isTup, cellsL, wr, w2]
      rw [hm, hm2]
      simp only [ptrN] at hHN
      rw [← hHN]
      refine Wf.mono hps ?_
      rintro v H8 ⟨q5, hq5, hp5, hf5⟩
      have hs5 : q5.size = q4.size + 1 := by
        have := (Array.perm_iff_toList_perm.1 hp5).length_eq
        simpa using this
      have t5 : (tsOf q5).Perm (.two o x.t y.t :: tsOf q4) := ((tsOf_perm hp5).trans (by rw [tsOf_push])).trans (List.perm_append_singleton _ _)
      have f8 : IntKind.i64.wrap ((o : Int) + 1) = ((256 + (k + 1) : Nat) : Int) := w3
      simp [f8]
      refine ⟨q5.size, by omega, q5, k + 1, ic + w, rfl, by omega, by omega, hq5, hf5, ?_, ?_, ?_, ?_, ?_, by simp [e4], by simp, by simp⟩
      · exact ((hw2.perm t34.symm).two mx my).perm t5
      · refine (t5.flatMap_right T.lv).trans ?_
        have := (t34.symm.flatMap_right T.lv).trans hlv2
        simpa [T.lv, List.append_assoc] using this
      · have h1 := (t5.map T.ic).sum_nat
        have h2 := (t34.map T.ic).sum_nat
        simp only [List.map_cons, List.sum_cons, T.ic] at h1 h2
        omega
      · have : w ≤ (L.map (·.2)).sum := by omega
        rw [Nat.succ_mul]; omega
      · intro c hc
        have h1 : Hc (w :: (tsOf q4).map T.w) c := by
          refine hc.perm ?_
          have := (t5.map T.w).symm
          rw [hw]
          exact this
        have h2 : Hc ((tsOf q2).map T.w) (w + c) := by
          rw [hw]
          refine .two (W' := (tsOf q4).map T.w) (t34.map T.w) (fun z hz => ?_) (fun z hz => ?_) (hw ▸ h1)
          · rw [← List.map_cons] at hz
            obtain ⟨u, hu, rfl⟩ := List.mem_map.1 hz
            exact mx u hu
          · obtain ⟨u, hu, rfl⟩ := List.mem_map.1 hz
            exact my u hu
        have := hc2 _ h2
        rw [show ic + w + c = ic + (w + c) by omega]
        exact this
    · have h8 : q2.size = 1 := by omega
      have h7' : ¬ (1 : Int) < q2.size := by omega
      have hlen : Wf S 119 [.slice (some ⟨b, 0, none⟩) q2.size c2] H4 fun v H' => v = .int .i64 q2.size ∧ H' = H4 := by
        refine w119 rfl rfl _ ?_
        simp [s119]
      simp [s88_0, e4, e7, e8, y2]
      refine hlen.mono ?_
      rintro v H5 ⟨rfl, rfl⟩
      simp [h7, h7', e4, e7]
      refine (take_t hq2 hp2 hf2).mono ?_
      rintro v H6 ⟨x, q3, rfl, hx6, hq3, hp3, hf3, hl3⟩
      have hs3 : q3.size + 1 = q2.size := by
        have := (Array.perm_iff_toList_perm.1 hp3).length_eq
        simpa using this
      have h30 : tsOf q3 = [] := List.eq_nil_of_length_eq_zero (by rw [tsOf_len]; omega)
      have t3 : (tsOf q2).Perm [x.t] := by
        have := ((tsOf_perm hp3).symm.trans (by rw [tsOf_push]))
        rw [h30] at this
        exact this
      have hic3 : ic = x.t.ic := by
        have := (t3.map T.ic).sum_nat
        simp at this; omega
      have hxl := (t3.symm.flatMap_right T.lv).trans hlv2
      simp at hxl
      have hwd := hw2.perm t3.symm
      have hH : Hc (L.map (·.2)) x.t.ic := by
        have := hc2 0 ((Hc.one x.t.w).perm (t3.map T.w))
        rw [hic3] at this
        exact this
      simp [tup, hic3, e7]
      exact ⟨hq3.kp, x, ⟨rfl, rfl⟩, hx6, hwd.sib x.t (by simp), hwd.pos x.t (by simp), hxl, hH⟩
end
end Go.Proofs.Ytlboioplemlneaa.K
/- How deep each symbol is: the walk through a tree. -/
set_option maxRecDepth 100000
set_option maxHeartbeats 4000000
set_option linter.unusedVariables false
set_option linter.unusedSimpArgs false
namespace Go.Proofs.Ytlboioplemlneaa.K
open Go Go.Proofs
/-- lengths behind some symbols, and the greatest -/
def setA (l : List Int) (xs : List (Nat × Nat × Nat)) : List Int := xs.foldl (fun l x => l.set x.1 (x.2.2 : Int)) l
def mxA (m : Nat) (xs : List (Nat × Nat × Nat)) : Nat := xs.foldl (fun m x => max m x.2.2) m
theorem setA_len (xs : List (Nat × Nat × Nat)) : ∀ l, (setA l xs).length = l.length := by
  induction xs with
  | nil => intro l; rfl
  | cons x xs ih => intro l; show (setA (l.set x.1 _) xs).length = _; rw [ih, List.length_set]
theorem setA_app (l : List Int) (xs ys : List (Nat × Nat × Nat)) : setA l (xs ++ ys) = setA (setA l xs) ys := List.foldl_append ..
theorem mxA_app (m : Nat) (xs ys : List (Nat × Nat × Nat)) : mxA m (xs ++ ys) = mxA (mxA m xs) ys := List.foldl_append ..
theorem mxA_le {b : Nat} (xs : List (Nat × Nat × Nat)) : ∀ m, m ≤ b → (∀ x ∈ xs, x.2.2 ≤ b) → mxA m xs ≤ b := by
  induction xs with
  | nil => intro m h _; exact h
  | cons x xs ih => intro m h hx; exact ih (max m x.2.2) (by have := hx x (by simp); omega) fun y hy => hx y (by simp [hy])
theorem ints_set (l : List Int) (i : Nat) (x : Int) : (ints l).set i (.int .i64 x) = ints (l.set i x) := by simp [ints]
/-- the closure's variables: lengths at N behind the variable at ob, the greatest at db -/
structure Wk (H : Heap) (ob N db : Nat) (l : List Int) (D : Nat) : Prop where
  o : H.get ob = .cells [.slice (some ⟨N, 0, none⟩) l.length l.length] 38 true
  n : H.get N = .cells (ints l) 3 true
  d : H.get db = .cells [.int .i64 D] 3 true
  ne : N ≠ db
structure WkO (H H' : Heap) (N db : Nat) : Prop where
  nx : H'.next = H.next
  k : ∀ k, k ≠ N → k ≠ db → H'.get k = H.get k
def metF (ob db : Nat) : Value := .func (.func 90) #[] #[.pointer (some ⟨ob, 0, none⟩), .pointer (some ⟨db, 0, none⟩)]
section
variable {H : Heap} {ob N db : Nat} {l : List Int} {D : Nat}
theorem met_t (h : Wk H ob N db l D) {s d : Nat} (hs : s < l.length) : Wf S 90 [.int .i64 s, .int .i64 d, .pointer (some ⟨ob, 0, none⟩), .pointer (some ⟨db, 0, none⟩)] H fun v H' => Wk H' ob N db (l.set s (d : Int)) (max D d) ∧ WkO H H' N db := by
  obtain ⟨ho, hn, hd, hne⟩ := h
  have lN := lt_cells hn
  have lD := lt_cells hd
  have hob : ob ≠ N := by rintro rfl; rw [ho] at hn; simp at hn
  have hob2 : ob ≠ db := by rintro rfl; rw [ho] at hd; simp at hd
  have hsl : s < (ints l).length := by simpa [ints] using hs
  have s1 : kSt H (.pointer (some ⟨N, s, none⟩)) (.int .i64 d) = some (H.put N (.cells (ints (l.set s (d : Int))) 3 true)) := by
    simp only [kSt, hn]
    rw [if_pos (by simp [hsl, oneC]), ints_set]
  have g2 : (H.put N (.cells (ints (l.set s (d : Int))) 3 true)).get db = .cells [.int .i64 D] 3 true := (get_put_ne hne.symm).trans hd
  have hmx : max (D : Int) (d : Int) = ((max D d : Nat) : Int) := by omega
  have s2 : kSt (H.put N (.cells (ints (l.set s (d : Int))) 3 true)) (.pointer (some ⟨db, 0, none⟩)) (.int .i64 ((max D d : Nat) : Int)) = some ((H.put N (.cells (ints (l.set s (d : Int))) 3 true)).put db (.cells [.int .i64 ((max D d : Nat) : Int)] 3 true)) := by
    simp [kSt, g2, oneC]
  refine w90 rfl rfl _ _ _ _ ?_
  simp [s90, ho, hs, addOff, s1, g2]
  simp only [hmx, s2]
  refine ⟨⟨?_, ?_, get_put_eq (by rw [next_put]; exact lD), hne⟩, ⟨by rw [next_put, next_put], fun k h1 h2 => by rw [get_put_ne h2, get_put_ne h1]⟩⟩
  · rw [get_put_ne hob2, get_put_ne hob, List.length_set]; exact ho
  · rw [get_put_ne hne, get_put_eq lN]
theorem WkO.kn {H H' : Heap} (h : WkO H H' N db) {l : List Int} {D : Nat} (hw : Wk H ob N db l D) : KN H H' := fun k cs hk => h.k k (by
    rintro rfl; rw [hw.n] at hk; simp at hk) (by
    rintro rfl; rw [hw.d] at hk; simp at hk)
theorem WkO.trans {A B C : Heap} (h : WkO A B N db) (h' : WkO B C N db) : WkO A C N db := ⟨h'.nx.trans h.nx, fun k h1 h2 => (h'.k k h1 h2).trans (h.k k h1 h2)⟩
theorem walk_t : ∀ (t : T) (b d : Nat) (H : Heap) (l : List Int) (D : Nat), Nd H b t → Wk H ob N db l D → (∀ x ∈ t.lv, x.1 < l.length) → d + t.ht ≤ 1000000 →
    Wf S 89 [.pointer (some ⟨b, 0, none⟩), .int .i64 d, metF ob db] H fun v H' => Wk H' ob N db (setA l (t.dp d)) (mxA D (t.dp d)) ∧ WkO H H' N db := by
  intro t
  induction t with
  | leaf w s =>
    intro b d H l D hn hw hs hd
    have hsl := hs (s, w) (by simp [T.lv])
    have hm := met_t hw (s := s) (d := d) hsl
    refine w89 rfl rfl _ _ _ ?_
    have hn : H.get b = .cells [.int .i64 w, .int .i64 s, .int .i64 s, .pointer none, .pointer none] 124 true := hn
    simp [s89, addOff, hn, metF, Env.ev]
    refine hm.mono ?_
    rintro v H1 ⟨h1, h2⟩
    try simp
    exact ⟨h1, h2⟩
  | two o tl tr ihl ihr =>
    intro b d H l D hn hw hs hd
    obtain ⟨bl, br, hb, hl, hr⟩ := hn
    simp only [T.ht] at hd
    have w1 : IntKind.i64.wrap ((d : Int) + 1) = (d : Int) + 1 := wi (by omega) (by omega)
    have e1 : ((d + 1 : Nat) : Int) = (d : Int) + 1 := by omega
    have h1 := ihl bl (d + 1) H l D hl hw (fun x hx => hs x (by simp [T.lv, hx])) (by omega)
    refine w89 rfl rfl _ _ _ ?_
    rw [e1] at h1
    simp [s89, addOff, hb, w1]
    refine h1.mono ?_
    rintro v H1 ⟨hw1, ho1⟩
    have hkn := ho1.kn hw
    have hb1 := (hkn b _ hb).trans hb
    have h2 := ihr br (d + 1) H1 _ _ (Nd.kn hkn hr) hw1 (fun x hx => by rw [setA_len]; exact hs x (by simp [T.lv, hx])) (by omega)
    rw [e1] at h2
    simp [addOff, hb1, w1]
    refine h2.mono ?_
    rintro v H2 ⟨hw2, ho2⟩
    simp only [T.dp, setA_app, mxA_app]
    exact ⟨hw2, ho1.trans ho2⟩
end
end Go.Proofs.Ytlboioplemlneaa.K
/- Counts that may be, by the program. -/
set_option maxRecDepth 100000
set_option maxHeartbeats 2000000
set_option linter.unusedVariables false
set_option linter.unusedSimpArgs false
namespace Go.Proofs.Ytlboioplemlneaa.K
open Go Go.Proofs
def okC (x : Int) : Bool := decide (0 ≤ x) && decide (x ≤ 1048576)
def posC (x : Int) : Bool := decide (0 < x)
def cright (l : List Int) : Bool := l.all okC && (l.any posC && decide (l.length ≤ 256))
def AllC (l : List Int) : Prop := l.all okC = true
theorem any_succ {p : Int → Bool} {l : List Int} {i : Nat} {x : Int} (h : l[i]? = some x) : (l.take (i + 1)).any p = ((l.take i).any p || p x) := by
  rw [List.take_add_one, h]; simp
theorem cright_no {l : List Int} {i : Nat} {x : Int} (h : l[i]? = some x) (hp : okC x = false) : cright l = false := by
  simp only [cright, all_no h hp, Bool.false_and]
theorem allc_at {l : List Int} (h : AllC l) {i : Nat} {x : Int} (hx : l[i]? = some x) : 0 ≤ x ∧ x ≤ 1048576 := by
  unfold AllC at h
  rw [List.all_eq_true] at h
  have := h x (List.mem_of_getElem? hx)
  simpa [okC] using this
theorem allc_at0 {l : List Int} (h : AllC l) (i : Nat) : 0 ≤ at0 l i ∧ at0 l i ≤ 1048576 := by
  unfold at0
  rw [List.getD_eq_getElem?_getD]
  cases hx : l[i]? with
  | none => simp
  | some x => exact allc_at h hx
theorem sum_bd {l : List Int} (h : AllC l) (i : Nat) : 0 ≤ sumTo (at0 l) i ∧ sumTo (at0 l) i ≤ 1048576 * i := by
  induction i with
  | zero => simp [sumTo]
  | succ i ih => have := allc_at0 h i; simp only [sumTo]; omega
theorem sum_pos {l : List Int} (h : AllC l) : ∀ i, i ≤ l.length → (0 < sumTo (at0 l) i ↔ (l.take i).any posC = true)
  | 0, _ => by simp [sumTo]
  | i + 1, hi => by
    have ih := sum_pos h i (by omega)
    have hb := sum_bd h i
    obtain ⟨x, hx⟩ : ∃ x, l[i]? = some x := ⟨_, List.getElem?_eq_getElem (by omega)⟩
    have hxb := allc_at h hx
    rw [any_succ hx, Bool.or_eq_true, ← ih]
    simp only [sumTo, at0_of hx, posC, decide_eq_true_eq]
    omega
section
variable {H : Heap} {a : Option Addr} {c : Nat} {l : List Int}
theorem sum_t (hl : Iv H a l) (hall : AllC l) (hlen : l.length ≤ 256) : Wf S 118 [.slice a l.length c] H fun v H' => H' = H ∧ v = .int .i64 (sumTo (at0 l) l.length) := by
  refine w118 rfl rfl _ ?_
  simp [s118]
  refine l118_0 S (fun d e H' => ∃ i : Nat, i ≤ l.length ∧ d = l.length - i ∧ H' = H ∧ e 3 = .int .i64 (sumTo (at0 l) i) ∧ e 6 = .slice a l.length c ∧ e 7 = .int .i64 l.length ∧ e 8 = .int .i64 i) l.length ⟨0, by omega, by omega, rfl, by simp [sumTo], by simp, by simp, by simp⟩ ?_
  rintro d e H' ⟨i, hi, rfl, rfl, e3, e6, e7, e8⟩
  by_cases h3 : i < l.length
  · obtain ⟨b, o, cs, rw, rfl, hg, hc⟩ := hl (by omega)
    obtain ⟨x, hx⟩ : ∃ x, l[i]? = some x := ⟨_, List.getElem?_eq_getElem h3⟩
    have hcx := hc i x hx
    have hxb := allc_at hall hx
    have hb := sum_bd hall i
    have hw : IntKind.i64.wrap ((i : Int) + 1) = (i : Int) + 1 := wi (by omega) (by omega)
    have hw2 : IntKind.i64.wrap (sumTo (at0 l) i + x) = sumTo (at0 l) i + x := wi (by omega) (by omega)
    simp [s118_0, e3, e6, e7, e8, h3, addOff, hg, hcx, hw, hw2]
    exact ⟨l.length - (i + 1), by omega, i + 1, by omega, rfl, by simp [sumTo, at0_of hx], by omega⟩
  · have h5 : i = l.length := by omega
    subst h5
    simp [s118_0, e3, e7, e8]
theorem cRight_t (hl : Iv H a l) (hm : (l.length : Int) ≤ 9223372036854775807) : Wf S 87 [.slice a l.length c] H fun v H' => H' = H ∧ v = .bool (cright l) := by
  refine w87 rfl rfl _ ?_
  by_cases h256 : (256 : Int) < l.length
  · have : cright l = false := by simp only [cright]; rw [decide_eq_false (by omega)]; simp
    simp [s87, h256, this]
  simp [s87, h256]
  refine l87_0 S (fun d e H' => ∃ i : Nat, i ≤ l.length ∧ d = l.length - i ∧ H' = H ∧ e 0 = .slice a l.length c ∧ e 8 = .slice a l.length c ∧ e 9 = .int .i64 l.length ∧ e 10 = .int .i64 i ∧ AllC (l.take i)) l.length ⟨0, by omega, by omega, rfl, by simp, by simp, by simp, by simp, rfl⟩ ?_
  rintro d e H' ⟨i, hi, rfl, rfl, e0, e8, e9, e10, hok⟩
  by_cases h3 : i < l.length
  · obtain ⟨b, o, cs, rw, rfl, hg, hc⟩ := hl (by omega)
    obtain ⟨x, hx⟩ : ∃ x, l[i]? = some x := ⟨_, List.getElem?_eq_getElem h3⟩
    have hcx := hc i x hx
    have hw : IntKind.i64.wrap ((i : Int) + 1) = (i : Int) + 1 := wi (by omega) (by omega)
    by_cases g1 : x < 0
    · simp [s87_0, e8, e9, e10, h3, addOff, hg, hcx, g1]
      exact cright_no hx (by simp [okC]; omega)
    by_cases g2 : 1048576 < x
    · simp [s87_0, e8, e9, e10, h3, addOff, hg, hcx, g1, g2]
      exact cright_no hx (by simp [okC]; omega)
    · simp [s87_0, e8, e9, e10, h3, addOff, hg, hcx, g1, g2, hw]
      refine ⟨l.length - (i + 1), by omega, i + 1, by omega, rfl, e0, by simp, ?_⟩
      unfold AllC at *
      rw [all_succ hx, hok]; simp [okC]; omega
  · have h5 : i = l.length := by omega
    subst h5
    have hall : AllC l := by rw [List.take_length] at hok; exact hok
    simp [s87_0, e0, e9, e10]
    refine (sum_t hl hall (by omega)).mono ?_
    rintro v H2 ⟨rfl, rfl⟩
    have hp := sum_pos hall l.length (Nat.le_refl _)
    rw [List.take_length] at hp
    have hl256 : l.length ≤ 256 := by omega
    have hall' : l.all okC = true := hall
    simp only [cright, hall', decide_eq_true hl256, Bool.true_and, Bool.and_true]
    by_cases hs : 0 < sumTo (at0 l) l.length
    · simp [hs, hp.mp hs]
    · have : l.any posC = false := by rw [← Bool.not_eq_true]; exact fun e => hs (hp.mpr e)
      simp [hs, this]
end
end Go.Proofs.Ytlboioplemlneaa.K
/- Lengths out of a tree's depths, plainly: they are whole, just where something comes; their cost. -/
set_option maxRecDepth 100000
set_option maxHeartbeats 1000000
set_option linter.unusedVariables false
set_option linter.unusedSimpArgs false
namespace Go.Proofs.Ytlboioplemlneaa.K
open Go Go.Proofs
abbrev Sd := Nat × Nat × Nat
/-- a sum over those of a symbol -/
def ind (f : Sd → Int) : List Sd → Nat → Int
  | [], _ => 0
  | x :: xs, k => (if x.1 = k then f x else 0) + ind f xs k
theorem ind_no {f : Sd → Int} : ∀ {xs : List Sd} {k : Nat}, k ∉ xs.map (·.1) → ind f xs k = 0
  | [], k, _ => rfl
  | x :: xs, k, h => by
    simp only [List.map_cons, List.mem_cons, not_or] at h
    simp only [ind]
    rw [if_neg (fun e => h.1 e.symm), ind_no h.2]; rfl
theorem ind_cases : ∀ {xs : List Sd}, (xs.map (·.1)).Nodup → ∀ k, (∃ x ∈ xs, x.1 = k ∧ ∀ f, ind f xs k = f x) ∨ (k ∉ xs.map (·.1) ∧ ∀ f, ind f xs k = 0)
  | [], _, k => .inr ⟨by simp, fun f => rfl⟩
  | x :: xs, h, k => by
    simp only [List.map_cons, List.nodup_cons] at h
    by_cases e : x.1 = k
    · refine .inl ⟨x, by simp, e, fun f => ?_⟩
      simp only [ind]
      rw [if_pos e, ind_no (e ▸ h.1)]; omega
    · rcases ind_cases h.2 k with ⟨y, hy, hk, hf⟩ | ⟨hn, hf⟩
      · exact .inl ⟨y, by simp [hy], hk, fun f => by simp only [ind]; rw [if_neg e, hf]; omega⟩
      · exact .inr ⟨by simp only [List.map_cons, List.mem_cons, not_or]; exact ⟨fun e2 => e e2.symm, hn⟩, fun f => by simp only [ind]; rw [if_neg e, hf]; rfl⟩
def sumI (f : Sd → Int) : List Sd → Int
  | [] => 0
  | x :: xs => f x + sumI f xs
theorem sumTo_at {v : Int} {s : Nat} : ∀ n, sumTo (fun k => if s = k then v else 0) n = if s < n then v else 0
  | 0 => by simp [sumTo]
  | n + 1 => by
    simp only [sumTo, sumTo_at n]
    by_cases h : s < n
    · rw [if_pos h, if_neg (by omega), if_pos (by omega)]; omega
    · by_cases h2 : s = n
      · rw [if_neg h, if_pos h2, if_pos (by omega)]; omega
      · rw [if_neg h, if_neg h2, if_neg (by omega)]; rfl
theorem sum_ind (f : Sd → Int) : ∀ (xs : List Sd) (n : Nat), (∀ x ∈ xs, x.1 < n) → sumTo (ind f xs) n = sumI f xs
  | [], n, _ => by
    show sumTo (fun _ => 0) n = 0
    induction n with
    | zero => rfl
    | succ n ih => simp [sumTo, ih]
  | x :: xs, n, h => by
    show sumTo (fun k => (if x.1 = k then f x else 0) + ind f xs k) n = f x + sumI f xs
    rw [sumTo_add, sumTo_at, if_pos (h x (by simp)), sum_ind f xs n fun y hy => h y (by simp [hy])]
theorem sumI_nat (f : Sd → Nat) : ∀ xs : List Sd, sumI (fun x => (f x : Int)) xs = ((xs.map f).sum : Nat)
  | [] => rfl
  | x :: xs => by simp only [sumI, List.map_cons, List.sum_cons, sumI_nat f xs]; omega
theorem setA_at : ∀ (xs : List Sd) (l : List Int), (xs.map (·.1)).Nodup → (∀ x ∈ xs, x.1 < l.length) → ∀ k, at0 (setA l xs) k = if k ∈ xs.map (·.1) then ind (fun x => (x.2.2 : Int)) xs k else at0 l k
  | [], l, _, _, k => by simp [setA]
  | x :: xs, l, hn, hl, k => by
    simp only [List.map_cons, List.nodup_cons] at hn
    show at0 (setA (l.set x.1 (x.2.2 : Int)) xs) k = _
    rw [setA_at xs _ hn.2 (fun y hy => by rw [List.length_set]; exact hl y (by simp [hy]))]
    simp only [List.map_cons, List.mem_cons, ind]
    by_cases h1 : k ∈ xs.map (·.1)
    · have : ¬ x.1 = k := fun e => hn.1 (e ▸ h1)
      rw [if_pos h1, if_pos (.inr h1), if_neg this]; omega
    · rw [if_neg h1]
      have hx := hl x (by simp)
      by_cases h2 : k = x.1
      · rw [if_pos (.inl h2), if_pos h2.symm, ind_no h1]
        unfold at0
        rw [List.getD_eq_getElem?_getD, List.getElem?_set, h2, if_pos rfl, if_pos hx]
        simp
      · rw [if_neg (by rintro (h | h) <;> contradiction)]
        unfold at0
        rw [List.getD_eq_getElem?_getD, List.getD_eq_getElem?_getD, List.getElem?_set, if_neg (fun e => h2 e.symm)]
theorem lvs_mem {l : List Int} : ∀ {n : Nat} {x : Nat × Nat}, x ∈ lvs l n ↔ x.1 < n ∧ 0 < at0 l x.1 ∧ x.2 = (at0 l x.1).toNat
  | 0, x => by simp [lvs]
  | n + 1, x => by
    simp only [lvs]
    split
    · rename_i h
      rw [List.mem_append, lvs_mem, List.mem_singleton]
      constructor
      · rintro (⟨h1, h2⟩ | rfl)
        · exact ⟨by omega, h2⟩
        · exact ⟨by simp, h, rfl⟩
      · rintro ⟨h1, h2, h3⟩
        by_cases e : x.1 = n
        · right; cases x; simp only at e h3; subst e; rw [h3]
        · left; exact ⟨by omega, h2, h3⟩
    · rename_i h
      rw [lvs_mem]
      constructor
      · rintro ⟨h1, h2⟩; exact ⟨by omega, h2⟩
      · rintro ⟨h1, h2, h3⟩
        by_cases e : x.1 = n
        · rw [e] at h2; exact absurd h2 h
        · exact ⟨by omega, h2, h3⟩
theorem lvs_nodup (l : List Int) : ∀ n, ((lvs l n).map (·.1)).Nodup
  | 0 => by simp [lvs]
  | n + 1 => by
    simp only [lvs]
    split
    · rw [List.map_append, List.nodup_append]
      refine ⟨lvs_nodup l n, by simp, fun a ha b hb => ?_⟩
      obtain ⟨x, hx, rfl⟩ := List.mem_map.1 ha
      have := (lvs_mem.1 hx).1
      simp at hb
      omega
    · exact lvs_nodup l n
theorem lvs_sum (l : List Int) (h0 : ∀ i, 0 ≤ at0 l i) : ∀ n, ((((lvs l n).map (·.2)).sum : Nat) : Int) = sumTo (at0 l) n
  | 0 => rfl
  | n + 1 => by
    have ih := lvs_sum l h0 n
    have := h0 n
    simp only [lvs, sumTo]
    split
    · rw [List.map_append, List.sum_append]; simp; omega
    · omega
/-- lengths that a tree of these counts gives -/
structure LenOk (c l : List Int) (ic : Int) : Prop where
  len : l.length = c.length
  whole : wholeB l = true
  pos : ∀ k, 0 < at0 l k ↔ 0 < at0 c k
  cost : sumTo (fun k => at0 c k * at0 l k) c.length = ic
theorem at0_zeros (n k : Nat) : at0 (List.replicate n 0) k = 0 := by
  unfold at0; rw [List.getD_eq_getElem?_getD, List.getElem?_replicate]; split <;> rfl
theorem at0_out {l : List Int} {k : Nat} (h : l.length ≤ k) : at0 l k = 0 := by
  unfold at0; rw [List.getD_eq_getElem?_getD, List.getElem?_eq_none h]; rfl
theorem right_of {l : List Int} (h : ∀ k, 0 ≤ at0 l k ∧ at0 l k ≤ 11) (hl : l.length ≤ 256) : rightB l = true := by
  simp only [rightB, Bool.and_eq_true, decide_eq_true_eq, List.all_eq_true]
  refine ⟨fun x hx => ?_, hl⟩
  obtain ⟨i, hi, rfl⟩ := List.mem_iff_getElem.1 hx
  have := h i
  rw [at0_of (List.getElem?_eq_getElem hi)] at this
  exact this
/-- depths that fill all -/
theorem lens_of {c : List Int} {xs : List Sd} (hc : ∀ i, 0 ≤ at0 c i) (hcl : c.length ≤ 256) (hp : (xs.map fun x => (x.1, x.2.1)).Perm (lvs c c.length)) (hd : ∀ x ∈ xs, 1 ≤ x.2.2 ∧ x.2.2 ≤ 11)
    (hk : (xs.map (fun x => 2 ^ (11 - x.2.2))).sum = 2048 ∨ xs.length = 1 ∧ (xs.map (fun x => 2 ^ (11 - x.2.2))).sum = 1024) :
    LenOk c (setA (List.replicate c.length 0) xs) ((xs.map (fun x => x.2.1 * x.2.2)).sum : Nat) := by
  have hm : ∀ x ∈ xs, x.1 < c.length ∧ 0 < at0 c x.1 ∧ x.2.1 = (at0 c x.1).toNat := fun x hx => by
    have := hp.mem_iff.1 (List.mem_map.2 ⟨x, hx, rfl⟩)
    exact lvs_mem.1 this
  have hnd : (xs.map (·.1)).Nodup := by
    have h1 := (hp.map (·.1)).nodup_iff.2 (lvs_nodup c c.length)
    rw [List.map_map] at h1
    exact h1
  have hin : ∀ k, k < c.length → 0 < at0 c k → k ∈ xs.map (·.1) := fun k h1 h2 => by
    have := hp.mem_iff.2 (lvs_mem (x := (k, (at0 c k).toNat)).2 ⟨h1, h2, rfl⟩)
    obtain ⟨x, hx, e⟩ := List.mem_map.1 this
    exact List.mem_map.2 ⟨x, hx, congrArg Prod.fst e⟩
  have hlen : (setA (List.replicate c.length (0 : Int)) xs).length = c.length := by rw [setA_len, List.length_replicate]
  obtain ⟨l, hl⟩ : ∃ l, l = setA (List.replicate c.length (0 : Int)) xs := ⟨_, rfl⟩
  rw [← hl] at hlen ⊢
  have hat : ∀ k, at0 l k = ind (fun x => (x.2.2 : Int)) xs k := fun k => by
    rw [hl, setA_at xs _ hnd (fun x hx => by rw [List.length_replicate]; exact (hm x hx).1)]
    split
    · rfl
    · rename_i h; rw [ind_no h, at0_zeros]
  have hbd : ∀ k, 0 ≤ at0 l k ∧ at0 l k ≤ 11 := fun k => by
    rw [hat]
    rcases ind_cases hnd k with ⟨x, hx, _, hf⟩ | ⟨_, hf⟩
    · have := hd x hx
      rw [hf]; (try simp only); omega
    · rw [hf]; omega
  have hpos : ∀ k, 0 < at0 l k ↔ 0 < at0 c k := fun k => by
    rw [hat]
    rcases ind_cases hnd k with ⟨x, hx, hxk, hf⟩ | ⟨hn, hf⟩
    · have h1 := hd x hx
      have h2 := (hm x hx).2.1
      rw [hf, ← hxk]; (try simp only)
      constructor <;> intro <;> omega
    · rw [hf]
      constructor
      · intro h; omega
      · intro h
        by_cases hkl : k < c.length
        · exact absurd (hin k hkl h) hn
        · rw [at0_out (by omega)] at h; omega
  have htot : total l = ((xs.map (fun x => 2 ^ (11 - x.2.2))).sum : Nat) := by
    unfold total
    have h1 : sumTo (taken l) l.length = sumTo (ind (fun x => ((2 ^ (11 - x.2.2) : Nat) : Int)) xs) l.length := sumTo_congr _ fun k _ => by
      unfold taken
      rw [hat]
      rcases ind_cases hnd k with ⟨x, hx, hxk, hf⟩ | ⟨hn, hf⟩
      · have := hd x hx
        rw [hf, hf, if_pos (by (try simp only); omega)]
        unfold part p2
        rw [show (11 - (x.2.2 : Int)).toNat = 11 - x.2.2 by omega]
        push_cast; rfl
      · rw [hf, hf, if_neg (by omega)]
    rw [h1, sum_ind _ _ _ (fun x hx => by rw [hlen]; exact (hm x hx).1), sumI_nat]
  have hcnt : cntP l l.length = xs.length := by
    have h0 : ∀ n, cntP l n = sumTo (fun k => if 0 < at0 l k then 1 else 0) n := fun n => by
      induction n with
      | zero => rfl
      | succ n ih => simp only [cntP, sumTo, ih]
    have h1 : sumTo (fun k => if 0 < at0 l k then 1 else 0) l.length = sumTo (ind (fun _ => ((1 : Nat) : Int)) xs) l.length := sumTo_congr _ fun k _ => by
      rw [hat]
      rcases ind_cases hnd k with ⟨x, hx, hxk, hf⟩ | ⟨hn, hf⟩
      · have := hd x hx
        rw [hf, hf, if_pos (by (try simp only); omega)]; rfl
      · rw [hf, hf, if_neg (by omega)]
    rw [h0, h1, sum_ind _ _ _ (fun x hx => by rw [hlen]; exact (hm x hx).1), sumI_nat]
    have : ∀ ys : List Sd, (ys.map fun _ => 1).sum = ys.length := fun ys => by
      induction ys with
      | nil => rfl
      | cons y ys ih => simp only [List.map_cons, List.sum_cons, List.length_cons, ih]; omega
    rw [this]
  refine ⟨hlen, ?_, hpos, ?_⟩
  · unfold wholeB
    rw [Bool.and_eq_true, Bool.or_eq_true, Bool.and_eq_true, decide_eq_true_eq, decide_eq_true_eq, decide_eq_true_eq]
    refine ⟨right_of hbd (by omega), ?_⟩
    rw [htot, hcnt]
    rcases hk with h | ⟨h1, h2⟩
    · left; omega
    · right; omega
  · have h1 : sumTo (fun k => at0 c k * at0 l k) c.length = sumTo (ind (fun x => ((x.2.1 * x.2.2 : Nat) : Int)) xs) c.length := sumTo_congr _ fun k _ => by
      simp only [hat]
      rcases ind_cases hnd k with ⟨x, hx, hxk, hf⟩ | ⟨hn, hf⟩
      · have h2 := hm x hx
        have := hc x.1
        rw [hf, hf, ← hxk]
        try simp only
        rw [Int.natCast_mul, h2.2.2, Int.toNat_of_nonneg this]
      · rw [hf, hf]; omega
    rw [h1, sum_ind _ _ _ (fun x hx => (hm x hx).1), sumI_nat]
end Go.Proofs.Ytlboioplemlneaa.K
/- huff.Lengths: lengths of counts of up to 376 in all. -/
set_option maxRecDepth 100000
set_option maxHeartbeats 4000000
set_option linter.unusedVariables false
set_option linter.unusedSimpArgs false
namespace Go.Proofs.Ytlboioplemlneaa.K
open Go Go.Proofs
theorem cright_len {c : List Int} (h : cright c = true) : c.length ≤ 256 := by
  simp only [cright, Bool.and_eq_true, decide_eq_true_eq] at h
  exact h.2.2
theorem cright_bd {c : List Int} (h : cright c = true) : ∀ x ∈ c, 0 ≤ x ∧ x ≤ 1048576 := fun x hx => by
  simp only [cright, Bool.and_eq_true, decide_eq_true_eq, List.all_eq_true, okC] at h
  exact h.1 x hx
theorem cright_some {c : List Int} (h : cright c = true) : 0 < (lvs c c.length).length := by
  simp only [cright, Bool.and_eq_true, decide_eq_true_eq, List.any_eq_true, posC] at h
  obtain ⟨x, hx, hp⟩ := h.2.1
  obtain ⟨i, hi, rfl⟩ := List.mem_iff_getElem.1 hx
  have h1 := at0_of (List.getElem?_eq_getElem hi)
  have : (i, (at0 c i).toNat) ∈ lvs c c.length := lvs_mem.2 ⟨hi, by rw [h1]; exact hp, rfl⟩
  exact List.length_pos_of_mem this
/-- the answer: lengths of c, and yes -/
def LenV (c : List Int) (v : Value) (H' : Heap) : Prop := ∃ N l ic, v = .tuple #[.slice (some ⟨N, 0, none⟩) c.length c.length, .bool true] ∧ H'.get N = .cells (ints l) 3 true ∧ LenOk c l ic
section
variable {H : Heap} {a : Option Addr} {cc : Nat} {c : List Int}
theorem Lengths_t (hl : Iv H a c) (hr : cright c = true) (hs : sumTo (at0 c) c.length ≤ 376) :
    Wf S 38 [.slice a c.length cc] H fun v H' => Kp H.next H H' ∧ LenV c v H' := by
  have hlen := cright_len hr
  have hbd := cright_bd hr
  have hcb := ct_bd hbd
  refine w38 rfl rfl _ ?_
  simp [s38]
  refine (cRight_t hl (by omega)).mono ?_
  rintro v H1 ⟨rfl, rfl⟩
  rw [hr]
  try simp
  refine (tree_t hl hlen hbd (cright_some hr)).mono ?_
  rintro v H2 ⟨hk2, x, rfl, hx2, hsib, hpos, hlv, hhc⟩
  obtain ⟨bx, t⟩ := x
  simp only at hlv hhc hsib hpos
  have hmks : kMks H2 3 [.int .i64 0] 8 (.int .i64 (c.length : Int)) (.int .i64 (c.length : Int)) = some (.slice (some ⟨H2.next, 0, none⟩) c.length c.length, H2.push (.cells (ints (List.replicate c.length 0)) 3 true)) := by
    simp only [kMks]
    rw [if_pos (by omega)]
    have : zeros [.int .i64 0] c.length = ints (List.replicate c.length 0) := by
      simp [zeros, ints]
    simp only [Int.toNat_natCast, this]
  obtain ⟨N, hN⟩ : ∃ N, N = H2.next := ⟨_, rfl⟩
  obtain ⟨H3, hH3⟩ : ∃ H3, H3 = (H2.push (.cells (ints (List.replicate c.length 0)) 3 true)).push (.cells [.slice (some ⟨N, 0, none⟩) c.length c.length] 38 true) := ⟨_, rfl⟩
  have hk3 : Kp H2.next H2 H3 := ⟨by rw [hH3]; simp; omega, fun k hk => by rw [hH3, get_old (by simp; omega), get_old hk]⟩
  have hn3 : H3.next = N + 2 := by rw [hH3, hN]; simp
  have gN : H3.get N = .cells (ints (List.replicate c.length 0)) 3 true := by rw [hH3, hN, get_old (by simp), get_last]
  have gO : H3.get (N + 1) = .cells [.slice (some ⟨N, 0, none⟩) c.length c.length] 38 true := by
    rw [hH3, hN]
    have := get_last (H := H2.push (.cells (ints (List.replicate c.length 0)) 3 true)) (b := .cells [.slice (some ⟨H2.next, 0, none⟩) c.length c.length] 38 true)
    simp
  have hx3 : Nd H3 bx t := Nd.kn (KN.kp hk3) hx2
  have hk13 := hk2.trans (hk3.mono hk2.1)
  have hmem : ∀ x ∈ t.lv, x.1 < c.length := fun x hx => (lvs_mem.1 (hlv.mem_iff.1 hx)).1
  have hH1N : H1.next ≤ N := by rw [hN]; exact hk2.1
  have hst : kSt ((H2.push (.cells (ints (List.replicate c.length 0)) 3 true)).push (.cells [.slice none 0 0] 38 true)) (.pointer (some ⟨H2.next + 1, 0, none⟩)) (.slice (some ⟨H2.next, 0, none⟩) c.length c.length) = some H3 := by
    have e1 : (H2.push (.cells (ints (List.replicate c.length 0)) 3 true)).next = H2.next + 1 := by simp
    have g := get_last (H := H2.push (.cells (ints (List.replicate c.length 0)) 3 true)) (b := .cells [.slice none 0 0] 38 true)
    rw [e1] at g
    have p := put_last (H := H2.push (.cells (ints (List.replicate c.length 0)) 3 true)) (x := .cells [.slice none 0 0] 38 true) (y := .cells [.slice (some ⟨H2.next, 0, none⟩) c.length c.length] 38 true)
    rw [e1] at p
    rw [hH3, hN]
    simp [kSt, g, oneC, p]
  simp [ptrN, hmks]
  rw [hst, ← hN]
  simp only [oH_some]
  cases t with
  | leaf w s =>
    have hx3 : H3.get bx = .cells [.int .i64 w, .int .i64 s, .int .i64 s, .pointer none, .pointer none] 124 true := hx3
    have hsl := hmem (s, w) (by simp [T.lv])
    have hsl' : s < (ints (List.replicate c.length (0 : Int))).length := by simpa [ints] using hsl
    have s1 : kSt H3 (.pointer (some ⟨N, s, none⟩)) (.int .i64 1) = some (H3.put N (.cells (ints ((List.replicate c.length (0 : Int)).set s 1)) 3 true)) := by
      simp only [kSt, gN]
      rw [if_pos (by simp [oneC]; exact hsl'), ints_set]
    have lN := lt_cells gN
    have gO2 : (H3.put N (.cells (ints ((List.replicate c.length (0 : Int)).set s 1)) 3 true)).get (N + 1) = .cells [.slice (some ⟨N, 0, none⟩) c.length c.length] 38 true := by
      rw [get_put_ne (by omega)]; exact gO
    have hok := lens_of (c := c) (xs := [(s, w, 1)]) (fun i => (hcb i).1) hlen (by simpa [T.lv] using hlv) (by simp) (.inr (by simp))
    simp [addOff, hx3, gO, hsl, s1, gO2, tup]
    exact ⟨⟨by rw [next_put]; exact hk13.1, fun k hk => by rw [get_put_ne (by omega)]; exact hk13.2 k hk⟩, ⟨N, _, _, rfl, get_put_eq lN, hok⟩⟩
  | two o tl tr =>
    obtain ⟨bl, br, hb, hnl, hnr⟩ := hx3
    have hd : (T.two o tl tr).ht ≤ 11 := T.shallow hsib hpos (by
      have h1 := (hlv.map (·.2)).sum_nat
      rw [T.lv_w] at h1
      have h2 := lvs_sum c (fun i => (hcb i).1) c.length
      omega)
    obtain ⟨t, ht⟩ : ∃ t, t = T.two o tl tr := ⟨_, rfl⟩
    have hnd : Nd H3 bx t := ht ▸ ⟨bl, br, hb, hnl, hnr⟩
    have hd1 : ∀ x ∈ t.dp 0, 1 ≤ x.2.2 := by
      rw [ht]
      intro x hx
      simp only [T.dp, List.mem_append] at hx
      rcases hx with hx | hx
      · exact (T.dp_ge _ _ x hx).1
      · exact (T.dp_ge _ _ x hx).1
    rw [← ht] at hlv hd hmem
    have hd2 : ∀ x ∈ t.dp 0, x.2.2 ≤ 11 := fun x hx => by
      have := (T.dp_ge _ _ x hx).2; omega
    obtain ⟨H4, hH4⟩ : ∃ H4, H4 = H3.push (.cells [.int .i64 0] 3 true) := ⟨_, rfl⟩
    have hk4 : Kp H3.next H3 H4 := hH4 ▸ Kp.push (Nat.le_refl _)
    have hw4 : Wk H4 (N + 1) N H3.next (List.replicate c.length (0 : Int)) 0 := by
      refine ⟨?_, ?_, by rw [hH4]; exact get_last, by omega⟩
      · rw [hk4.2 _ (by omega), List.length_replicate]; exact gO
      · rw [hk4.2 _ (by omega)]; exact gN
    have hwk := walk_t t bx 0 H4 _ 0 (Nd.kn (KN.kp hk4) hnd) hw4 (by rw [List.length_replicate]; exact hmem) (by omega)
    have hok := lens_of (c := c) (xs := t.dp 0) (fun i => (hcb i).1) hlen (by rw [T.dp_lv]; exact hlv) (fun x hx => ⟨hd1 x hx, hd2 x hx⟩) (.inl (T.dp_kraft t 0 (by omega)))
    have hst4 : kSt H4 (.pointer (some ⟨H3.next, 0, none⟩)) (.int .i64 0) = some H4 := by
      have := put_last (H := H3) (x := .cells [.int .i64 0] 3 true) (y := .cells [.int .i64 0] 3 true)
      simp [kSt, hw4.d, oneC]
      rw [hH4]; exact this
    have hm := mxA_le (t.dp 0) 0 (by omega) hd2
    simp [addOff, hb]
    rw [← hH4, hst4]
    simp only [oH_some]
    refine Wf.mono hwk ?_
    rintro v H5 ⟨hw5, ho5⟩
    have go := hw5.o
    have gd := hw5.d
    rw [setA_len, List.length_replicate] at go
    have h11 : ¬ (11 : Int) < ((mxA 0 (t.dp 0) : Nat) : Int) := by omega
    have h11' : ¬ 11 < mxA 0 (t.dp 0) := by omega
    simp [gd, h11, h11', go, tup]
    exact ⟨⟨by rw [ho5.nx]; exact Nat.le_trans hk13.1 hk4.1, fun k hk => by rw [ho5.k k (by omega) (by omega), hk4.2 k (by omega)]; exact hk13.2 k hk⟩, ⟨N, _, _, rfl, hw5.n, hok⟩⟩
end
end Go.Proofs.Ytlboioplemlneaa.K
