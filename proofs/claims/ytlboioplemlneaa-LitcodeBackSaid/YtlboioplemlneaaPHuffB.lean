/- Codes of unlike lengths: whether lengths are whole, by the program and by the document. -/
import Derived.Test.YtlboioplemlneaaPHuffA
set_option maxRecDepth 100000
set_option maxHeartbeats 2000000
set_option linter.unusedVariables false
set_option linter.unusedSimpArgs false
namespace Go.Proofs.Ytlboioplemlneaa.K
open Go Go.Proofs
section
variable {H : Heap} {a : Option Addr} {c : Nat} {l : List Int}
theorem Whole_t (hl : Iv H a l) (hm : (l.length : Int) ≤ 9223372036854775807) : Wf S 61 [.slice a l.length c] H fun v H' => H' = H ∧ v = .bool (wholeB l) := by
  refine w61 rfl rfl _ ?_
  simp [s61]
  refine (right_t hl hm).mono ?_
  rintro v H1 ⟨rfl, rfl⟩
  by_cases hr : rightB l = true
  · have hlen := right_len hr
    have hall := right_all hr
    simp [hr]
    refine l61_0 S (fun d e H' => ∃ i : Nat, i ≤ l.length ∧ d = l.length - i ∧ H' = H1 ∧ e 3 = .int .i64 (2048 - sumTo (taken l) i) ∧ e 4 = .int .i64 (cntP l i) ∧ e 5 = .bool (oneAt l i) ∧ e 11 = .slice a l.length c ∧ e 12 = .int .i64 l.length ∧ e 13 = .int .i64 i) l.length ⟨0, by omega, by omega, rfl, by simp [sumTo], by simp [cntP], by simp [oneAt], by simp, by simp, by simp⟩ ?_
    rintro d e H' ⟨i, hi, rfl, rfl, e3, e4, e5, e11, e12, e13⟩
    by_cases h3 : i < l.length
    · obtain ⟨b, o, cs, rw, rfl, hg, hc⟩ := hl (by omega)
      obtain ⟨x, hx⟩ : ∃ x, l[i]? = some x := ⟨_, List.getElem?_eq_getElem h3⟩
      have hcx := hc i x hx
      have hax := at0_of hx
      have hxb := hall i
      rw [hax] at hxb
      have hw : IntKind.i64.wrap ((i : Int) + 1) = (i : Int) + 1 := wi (by omega) (by omega)
      have htb := tot_bd (l := l) i fun k _ => (hall k).2
      have hcb := cntP_bd l i
      by_cases g1 : 0 < x
      · have hpl : part x ≤ 1024 := part_le (by omega)
        have hpp := part_pos x
        have hw2 : IntKind.i64.wrap (11 - x) = 11 - x := wi (by omega) (by omega)
        have hw3 : IntKind.i64.wrap (cntP l i + 1) = cntP l i + 1 := wi (by omega) (by omega)
        have hw4 : IntKind.i64.wrap (2048 - sumTo (taken l) i - part x) = 2048 - sumTo (taken l) i - part x := wi (by omega) (by omega)
        have hsh := shl_part hxb.1 hxb.2
        have hn : ¬ (11 - x < 0) := by omega
        have hn2 : ¬ 11 < x := by omega
        simp only [Int.one_mul] at hsh
        simp [s61_0, e3, e4, e5, e11, e12, e13, h3, addOff, hg, hcx, g1, hw, hw2, hw3, kb_shl, hn, hn2, hsh, hw4]
        refine ⟨l.length - (i + 1), by omega, i + 1, by omega, rfl, ?_, ?_, ?_, by simp⟩
        · simp only [sumTo, taken, hax, g1, if_true]; omega
        · simp [cntP, hax, g1]
        · simp [oneAt, hax, g1]
      · simp [s61_0, e3, e4, e5, e11, e12, e13, h3, addOff, hg, hcx, g1, hw]
        refine ⟨l.length - (i + 1), by omega, i + 1, by omega, rfl, ?_, ?_, ?_, by simp⟩
        · simp [sumTo, taken, hax, g1]
        · simp [cntP, hax, g1]
        · simp [oneAt, hax, g1]
    · have h5 : i = l.length := by omega
      subst h5
      have hwp := whole_prog hr
      have hw : wholeB l = (decide (total l = 2048) || (decide (cntP l l.length = 1) && decide (total l = 1024))) := by simp only [wholeB, hr, Bool.true_and]
      rw [← hwp] at hw
      have ht : sumTo (taken l) l.length = total l := rfl
      by_cases q1 : 2048 - total l = 0
      · simp [s61_0, e3, e4, e5, e12, e13, ht, q1, hw]
      · by_cases q2 : cntP l l.length = 1
        · simp [s61_0, e3, e4, e5, e12, e13, ht, q1, q2, hw]
        · simp [s61_0, e3, e4, e5, e12, e13, ht, q1, q2, hw]
  · have : wholeB l = false := by simp [wholeB, hr]
    simp [hr, this]
theorem rWhole_t (hl : Iv H a l) (hm : (l.length : Int) ≤ 9223372036854775807) : Wf S 22 [.slice a l.length c] H fun v H' => H' = H ∧ v = .bool (wholeB l) := by
  refine w22 rfl rfl _ ?_
  simp [s22]
  refine (rright_t hl hm).mono ?_
  rintro v H1 ⟨rfl, rfl⟩
  by_cases hr : rightB l = true
  · have hlen := right_len hr
    have hall := right_all hr
    simp [hr]
    refine l22_0 S (fun d e H' => ∃ i : Nat, i ≤ l.length ∧ d = l.length - i ∧ H' = H1 ∧ e 0 = .slice a l.length c ∧ e 3 = .int .i64 (sumTo (taken l) i) ∧ e 4 = .int .i64 (cntP l i) ∧ e 5 = .int .i64 i) l.length ⟨0, by omega, by omega, rfl, by simp, by simp [sumTo], by simp [cntP], by simp⟩ ?_
    rintro d e H' ⟨i, hi, rfl, rfl, e0, e3, e4, e5⟩
    by_cases h3 : i < l.length
    · obtain ⟨b, o, cs, rw, rfl, hg, hc⟩ := hl (by omega)
      obtain ⟨x, hx⟩ : ∃ x, l[i]? = some x := ⟨_, List.getElem?_eq_getElem h3⟩
      have hcx := hc i x hx
      have hax := at0_of hx
      have hxb := hall i
      rw [hax] at hxb
      have hw : IntKind.i64.wrap ((i : Int) + 1) = (i : Int) + 1 := wi (by omega) (by omega)
      have htb := tot_bd (l := l) i fun k _ => (hall k).2
      have hcb := cntP_bd l i
      by_cases g1 : 0 < x
      · have hpl : part x ≤ 1024 := part_le (by omega)
        have hpp := part_pos x
        have hw2 : IntKind.i64.wrap (11 - x) = ((11 - x).toNat : Int) := by rw [wi (by omega) (by omega)]; omega
        have hw3 : IntKind.i64.wrap (cntP l i + 1) = cntP l i + 1 := wi (by omega) (by omega)
        have hw4 : IntKind.i64.wrap (sumTo (taken l) i + part x) = sumTo (taken l) i + part x := wi (by omega) (by omega)
        simp only [s22_0, e0, e3, e4, e5]
        simp [h3, addOff, hg, hcx, g1, e0, e3, e4, e5]
        rw [hw2]
        refine (Size_t H' (11 - x).toNat (by omega)).mono ?_
        rintro v H2 ⟨rfl, rfl⟩
        have hpe : p2 (11 - x).toNat = part x := rfl
        simp [e3, e4, e5, hpe, hw, hw3, hw4]
        refine ⟨l.length - (i + 1), by omega, i + 1, by omega, rfl, ?_, ?_, by simp⟩
        · simp [sumTo, taken, hax, g1]
        · simp [cntP, hax, g1]
      · simp [s22_0, e0, e3, e4, e5, h3, addOff, hg, hcx, g1, hw]
        refine ⟨l.length - (i + 1), by omega, i + 1, by omega, rfl, ?_, ?_, by simp⟩
        · simp [sumTo, taken, hax, g1]
        · simp [cntP, hax, g1]
    · have h5 : i = l.length := by omega
      subst h5
      have hw : wholeB l = (decide (total l = 2048) || (decide (cntP l l.length = 1) && decide (total l = 1024))) := by simp only [wholeB, hr, Bool.true_and]
      have ht : sumTo (taken l) l.length = total l := rfl
      by_cases q1 : total l = 2048
      · simp [s22_0, e0, e3, e4, e5, ht, q1, hw]
      · by_cases q2 : cntP l l.length = 1
        · simp [s22_0, e0, e3, e4, e5, ht, q1, q2, hw]
        · simp [s22_0, e0, e3, e4, e5, ht, q1, q2, hw]
  · have : wholeB l = false := by simp [wholeB, hr]
    simp [hr, this]
end
end Go.Proofs.Ytlboioplemlneaa.K
