/- Codes of unlike lengths: counts that may be, and costs, by the program and by the document. -/
import Derived.Test.YtpcpelbbeofenaaPHuffE
set_option maxRecDepth 100000
set_option maxHeartbeats 2000000
set_option linter.unusedVariables false
set_option linter.unusedSimpArgs false
namespace Go.Proofs.Ytpcpelbbeofenaa.K
open Go Go.Proofs
def okC (x : Int) : Bool := decide (0 ≤ x) && decide (x ≤ 1048576)
def posC (x : Int) : Bool := decide (0 < x)
def cright (l : List Int) : Bool := l.all okC && (l.any posC && decide (l.length ≤ 256))
def AllC (l : List Int) : Prop := l.all okC = true
theorem any_succ {p : Int → Bool} {l : List Int} {i : Nat} {x : Int} (h : l[i]? = some x) : (l.take (i + 1)).any p = ((l.take i).any p || p x) := by
  rw [List.take_add_one, h]; simp
theorem cright_no {l : List Int} {i : Nat} {x : Int} (h : l[i]? = some x) (hp : okC x = false) : cright l = false := by
  simp only [cright, all_no h hp, Bool.false_and]
theorem allc_at {l : List Int} (h : AllC l) {i : Nat} {x : Int} (hx : l[i]? = some x) : 0 ≤ x ∧ x ≤ 1048576 := by
  unfold AllC at h
  rw [List.all_eq_true] at h
  have := h x (List.mem_of_getElem? hx)
  simpa [okC] using this
theorem allc_at0 {l : List Int} (h : AllC l) (i : Nat) : 0 ≤ at0 l i ∧ at0 l i ≤ 1048576 := by
  unfold at0
  rw [List.getD_eq_getElem?_getD]
  cases hx : l[i]? with
  | none => simp
  | some x => exact allc_at h hx
theorem sum_bd {l : List Int} (h : AllC l) (i : Nat) : 0 ≤ sumTo (at0 l) i ∧ sumTo (at0 l) i ≤ 1048576 * i := by
  induction i with
  | zero => simp [sumTo]
  | succ i ih => have := allc_at0 h i; simp only [sumTo]; omega
theorem sum_pos {l : List Int} (h : AllC l) : ∀ i, i ≤ l.length → (0 < sumTo (at0 l) i ↔ (l.take i).any posC = true)
  | 0, _ => by simp [sumTo]
  | i + 1, hi => by
    have ih := sum_pos h i (by omega)
    have hb := sum_bd h i
    obtain ⟨x, hx⟩ : ∃ x, l[i]? = some x := ⟨_, List.getElem?_eq_getElem (by omega)⟩
    have hxb := allc_at h hx
    rw [any_succ hx, Bool.or_eq_true, ← ih]
    simp only [sumTo, at0_of hx, posC, decide_eq_true_eq]
    omega
section
variable {H : Heap} {a : Option Addr} {c : Nat} {l : List Int}
theorem sum_t (hl : Iv H a l) (hall : AllC l) (hlen : l.length ≤ 256) : Wf S 162 [.slice a l.length c] H fun v H' => H' = H ∧ v = .int .i64 (sumTo (at0 l) l.length) := by
  refine w162 rfl rfl _ ?_
  simp [s162]
  refine l162_0 S (fun d e H' => ∃ i : Nat, i ≤ l.length ∧ d = l.length - i ∧ H' = H ∧ e 3 = .int .i64 (sumTo (at0 l) i) ∧ e 6 = .slice a l.length c ∧ e 7 = .int .i64 l.length ∧ e 8 = .int .i64 i) l.length ⟨0, by omega, by omega, rfl, by simp [sumTo], by simp, by simp, by simp⟩ ?_
  rintro d e H' ⟨i, hi, rfl, rfl, e3, e6, e7, e8⟩
  by_cases h3 : i < l.length
  · obtain ⟨b, o, cs, rw, rfl, hg, hc⟩ := hl (by omega)
    obtain ⟨x, hx⟩ : ∃ x, l[i]? = some x := ⟨_, List.getElem?_eq_getElem h3⟩
    have hcx := hc i x hx
    have hxb := allc_at hall hx
    have hb := sum_bd hall i
    have hw : IntKind.i64.wrap ((i : Int) + 1) = (i : Int) + 1 := wi (by omega) (by omega)
    have hw2 : IntKind.i64.wrap (sumTo (at0 l) i + x) = sumTo (at0 l) i + x := wi (by omega) (by omega)
    simp [s162_0, e3, e6, e7, e8, h3, addOff, hg, hcx, hw, hw2]
    exact ⟨l.length - (i + 1), by omega, i + 1, by omega, rfl, by simp [sumTo, at0_of hx], by omega⟩
  · have h5 : i = l.length := by omega
    subst h5
    simp [s162_0, e3, e7, e8]
theorem cRight_t (hl : Iv H a l) (hm : (l.length : Int) ≤ 9223372036854775807) : Wf S 131 [.slice a l.length c] H fun v H' => H' = H ∧ v = .bool (cright l) := by
  refine w131 rfl rfl _ ?_
  by_cases h256 : (256 : Int) < l.length
  · have : cright l = false := by simp only [cright]; rw [decide_eq_false (by omega)]; simp
    simp [s131, h256, this]
  simp [s131, h256]
  refine l131_0 S (fun d e H' => ∃ i : Nat, i ≤ l.length ∧ d = l.length - i ∧ H' = H ∧ e 0 = .slice a l.length c ∧ e 8 = .slice a l.length c ∧ e 9 = .int .i64 l.length ∧ e 10 = .int .i64 i ∧ AllC (l.take i)) l.length ⟨0, by omega, by omega, rfl, by simp, by simp, by simp, by simp, rfl⟩ ?_
  rintro d e H' ⟨i, hi, rfl, rfl, e0, e8, e9, e10, hok⟩
  by_cases h3 : i < l.length
  · obtain ⟨b, o, cs, rw, rfl, hg, hc⟩ := hl (by omega)
    obtain ⟨x, hx⟩ : ∃ x, l[i]? = some x := ⟨_, List.getElem?_eq_getElem h3⟩
    have hcx := hc i x hx
    have hw : IntKind.i64.wrap ((i : Int) + 1) = (i : Int) + 1 := wi (by omega) (by omega)
    by_cases g1 : x < 0
    · simp [s131_0, e8, e9, e10, h3, addOff, hg, hcx, g1]
      exact cright_no hx (by simp [okC]; omega)
    by_cases g2 : 1048576 < x
    · simp [s131_0, e8, e9, e10, h3, addOff, hg, hcx, g1, g2]
      exact cright_no hx (by simp [okC]; omega)
    · simp [s131_0, e8, e9, e10, h3, addOff, hg, hcx, g1, g2, hw]
      refine ⟨l.length - (i + 1), by omega, i + 1, by omega, rfl, e0, by simp, ?_⟩
      unfold AllC at *
      rw [all_succ hx, hok]; simp [okC]; omega
  · have h5 : i = l.length := by omega
    subst h5
    have hall : AllC l := by rw [List.take_length] at hok; exact hok
    simp [s131_0, e0, e9, e10]
    refine (sum_t hl hall (by omega)).mono ?_
    rintro v H2 ⟨rfl, rfl⟩
    have hp := sum_pos hall l.length (Nat.le_refl _)
    rw [List.take_length] at hp
    have hl256 : l.length ≤ 256 := by omega
    have hall' : l.all okC = true := hall
    simp only [cright, hall', decide_eq_true hl256, Bool.true_and, Bool.and_true]
    by_cases hs : 0 < sumTo (at0 l) l.length
    · simp [hs, hp.mp hs]
    · have : l.any posC = false := by rw [← Bool.not_eq_true]; exact fun e => hs (hp.mpr e)
      simp [hs, this]
def hasP (l : List Int) (i : Nat) : Bool := (l.take i).any posC
theorem r5Right_t (hl : Iv H a l) (hm : (l.length : Int) ≤ 9223372036854775807) : Wf S 72 [.slice a l.length c] H fun v H' => H' = H ∧ v = .bool (cright l) := by
  refine w72 rfl rfl _ ?_
  simp [s72]
  refine l72_0 S (fun d e H' => ∃ i : Nat, i ≤ l.length ∧ d = l.length - i ∧ H' = H ∧ e 0 = .slice a l.length c ∧ e 3 = .bool (hasP l i) ∧ e 4 = .int .i64 i ∧ AllC (l.take i)) l.length ⟨0, by omega, by omega, rfl, by simp, by simp [hasP], by simp, rfl⟩ ?_
  rintro d e H' ⟨i, hi, rfl, rfl, e0, e3, e4, hok⟩
  by_cases h3 : i < l.length
  · obtain ⟨b, o, cs, rw, rfl, hg, hc⟩ := hl (by omega)
    obtain ⟨x, hx⟩ : ∃ x, l[i]? = some x := ⟨_, List.getElem?_eq_getElem h3⟩
    have hcx := hc i x hx
    have hw : IntKind.i64.wrap ((i : Int) + 1) = (i : Int) + 1 := wi (by omega) (by omega)
    by_cases g1 : x < 0
    · simp [s72_0, e0, e4, h3, addOff, hg, hcx, g1]
      exact cright_no hx (by simp [okC]; omega)
    by_cases g2 : 1048576 < x
    · simp [s72_0, e0, e4, h3, addOff, hg, hcx, g1, g2]
      exact cright_no hx (by simp [okC]; omega)
    · have hok' : AllC (l.take (i + 1)) := by
        unfold AllC at *
        rw [all_succ hx, hok]; simp [okC]; omega
      have han : hasP l (i + 1) = (hasP l i || posC x) := any_succ hx
      by_cases g3 : hasP l i = true
      · rw [g3] at e3 han
        simp [s72_0, e0, e3, e4, h3, addOff, hg, hcx, g1, g2, hw]
        exact ⟨l.length - (i + 1), by omega, i + 1, by omega, rfl, by rw [han]; simp, by omega, hok'⟩
      · have g3' : hasP l i = false := by simpa using g3
        rw [g3'] at e3 han
        simp [s72_0, e0, e3, e4, h3, addOff, hg, hcx, g1, g2, hw]
        exact ⟨l.length - (i + 1), by omega, i + 1, by omega, rfl, by rw [han]; simp [posC], by omega, hok'⟩
  · have h5 : i = l.length := by omega
    subst h5
    have hpl : hasP l l.length = l.any posC := by unfold hasP; rw [List.take_length]
    rw [hpl] at e3
    rw [List.take_length] at hok
    have hall' : l.all okC = true := hok
    simp only [cright, hall', Bool.true_and]
    by_cases g3 : l.any posC = true
    · rw [g3] at e3
      simp [s72_0, e0, e3, e4, g3]
      omega
    · have g3' : l.any posC = false := by simpa using g3
      rw [g3'] at e3
      simp [s72_0, e0, e3, e4, g3']
end
end Go.Proofs.Ytpcpelbbeofenaa.K
