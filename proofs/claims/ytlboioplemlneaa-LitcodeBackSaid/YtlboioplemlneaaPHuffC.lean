/- Codes of unlike lengths: the codes, by the program and by the document. -/
import Derived.Test.YtlboioplemlneaaPHuffB
set_option maxRecDepth 100000
set_option maxHeartbeats 2000000
set_option linter.unusedVariables false
set_option linter.unusedSimpArgs false
namespace Go.Proofs.Ytlboioplemlneaa.K
open Go Go.Proofs
theorem ite_iff {p q : Prop} [Decidable p] [Decidable q] {x y : Int} (h1 : p → q) (h2 : q → p) : (if p then x else y) = if q then x else y := by
  by_cases hp : p
  · rw [if_pos hp, if_pos (h1 hp)]
  · rw [if_neg hp, if_neg fun hq => hp (h2 hq)]
def ints (l : List Int) : List Value := l.map (.int .i64)
/-- what is laid so far: of the symbols as long as n, the first s -/
def laidAt (l : List Int) (n : Nat) (s : Nat) : List Int := (List.range l.length).map fun k => if 0 < at0 l k ∧ (at0 l k < n ∨ at0 l k = n ∧ k < s) then codeOf l k else 0
def codes (l : List Int) : List Int := (List.range l.length).map (codeOf l)
theorem laidAt_len (l : List Int) (n s : Nat) : (laidAt l n s).length = l.length := by simp [laidAt]
theorem laidAt_get {l : List Int} {n s k : Nat} (hk : k < l.length) : (laidAt l n s)[k]? = some (if 0 < at0 l k ∧ (at0 l k < n ∨ at0 l k = n ∧ k < s) then codeOf l k else 0) := by
  simp [laidAt, hk]
theorem laidAt_succ {l : List Int} {n s : Nat} (hs : s < l.length) (hn : 0 < n) : laidAt l n (s + 1) = if at0 l s = n then (laidAt l n s).set s (codeAt l n s) else laidAt l n s := by
  apply List.ext_getElem?
  intro k
  by_cases hk : k < l.length
  · rw [laidAt_get hk]
    by_cases he : at0 l s = n
    · rw [if_pos he, List.getElem?_set]
      by_cases h : s = k
      · subst h
        rw [if_pos rfl, if_pos (show s < (laidAt l n s).length by rw [laidAt_len]; exact hs)]
        rw [if_pos (show 0 < at0 l s ∧ (at0 l s < n ∨ at0 l s = n ∧ s < s + 1) by omega)]
        unfold codeOf
        rw [if_pos (show 0 < at0 l s by omega), he]; simp
      · rw [if_neg h, laidAt_get hk]
        congr 1
        exact ite_iff (fun hh => by omega) (fun hh => by omega)
    · rw [if_neg he, laidAt_get hk]
      congr 1
      by_cases h : k = s
      · subst h
        have : ¬ (at0 l k = n ∧ k < k + 1) := fun e => he e.1
        have h2 : ¬ (at0 l k = n ∧ k < k) := fun e => he e.1
        simp only [this, h2]
      · exact ite_iff (fun hh => by omega) (fun hh => by omega)
  · have h1 : l.length ≤ k := by omega
    rw [List.getElem?_eq_none (by rw [laidAt_len]; exact h1)]
    by_cases he : at0 l s = n
    · rw [if_pos he, List.getElem?_eq_none (by rw [List.length_set, laidAt_len]; exact h1)]
    · rw [if_neg he, List.getElem?_eq_none (by rw [laidAt_len]; exact h1)]
theorem laidAt_next (l : List Int) (n : Nat) : laidAt l (n + 1) 0 = laidAt l n l.length := by
  unfold laidAt
  refine List.map_congr_left fun k hk => ?_
  have hk' : k < l.length := by simpa using hk
  congr 1
  apply propext
  constructor
  · rintro ⟨h1, h2⟩; exact ⟨h1, by omega⟩
  · rintro ⟨h1, h2⟩; exact ⟨h1, by omega⟩
theorem laidAt_start (l : List Int) : laidAt l 1 0 = List.replicate l.length 0 := by
  apply List.ext_getElem?
  intro k
  by_cases hk : k < l.length
  · rw [laidAt_get hk, if_neg (by omega)]; simp [hk]
  · rw [List.getElem?_eq_none (by rw [laidAt_len]; omega), List.getElem?_eq_none (by simp; omega)]
theorem laidAt_end {l : List Int} (h : ∀ k, at0 l k ≤ 11) : laidAt l 12 0 = codes l := by
  apply List.ext_getElem?
  intro k
  by_cases hk : k < l.length
  · rw [laidAt_get hk]
    simp only [codes, List.getElem?_map, List.getElem?_range hk, Option.map_some]
    congr 1
    have := h k
    by_cases hp : 0 < at0 l k
    · rw [if_pos ⟨hp, by omega⟩]
    · rw [if_neg (by omega)]; unfold codeOf; rw [if_neg hp]
  · rw [List.getElem?_eq_none (by rw [laidAt_len]; omega), List.getElem?_eq_none (by simp [codes]; omega)]
theorem code_bd {l : List Int} (h : ∀ k, 0 ≤ at0 l k ∧ at0 l k ≤ 11) (hl : l.length ≤ 256) {n s : Nat} (h1 : 1 ≤ n) (h2 : n ≤ 11) (hs : s ≤ l.length) : 0 ≤ codeAt l n s ∧ codeAt l n s ≤ 262144 := by
  have he := codeAt_ahead (l := l) n h1 h2 s hs
  have ha := ahead_nonneg l n s
  have ht := ahead_total l n s
  have hb := tot_bd (l := l) l.length fun k _ => (h k).2
  have hp := part_pos (n : Int)
  have ht2 : total l = sumTo (taken l) l.length := rfl
  constructor
  · rcases Int.lt_or_le (codeAt l n s) 0 with h3 | h3
    · have : codeAt l n s * part n < 0 := Int.mul_neg_of_neg_of_pos h3 hp
      omega
    · exact h3
  · rcases Int.lt_or_le 262144 (codeAt l n s) with h3 | h3
    · have h4 : codeAt l n s * 1 ≤ codeAt l n s * part n := Int.mul_le_mul_of_nonneg_left (by omega) (by omega)
      omega
    · exact h3
/-- numbers in a block of their own -/
def Own (H : Heap) (b : Nat) (l : List Int) : Prop := H.get b = .cells (ints l) 3 true
section
variable {H : Heap} {a : Option Addr} {c : Nat} {l : List Int}
structure CI (N : Nat) (H0 : Heap) (a : Option Addr) (c : Nat) (l : List Int) (n s : Nat) (e : Fe) (H : Heap) : Prop where
  kp : Kp N H0 H
  own : Own H N (laidAt l n s)
  e0 : e 0 = .slice a l.length c
  e4 : e 4 = .slice (some ⟨N, 0, none⟩) l.length l.length
  e5 : e 5 = .int .i64 (codeAt l n s)
  e6 : e 6 = .int .i64 n
theorem codesIn_t {H0 : Heap} {N n : Nat} {e : Fe} {Q : Kx} (hl : Iv H0 a l) (hN : H0.next = N) (hr : rightB l = true) (h1 : 1 ≤ n) (h2 : n ≤ 11) (hc : CI N H0 a c l n 0 e H) (e19 : e 19 = .slice a l.length c) (e20 : e 20 = .int .i64 l.length) (e21 : e 21 = .int .i64 0)
    (hQ : ∀ e' H', CI N H0 a c l n l.length e' H' → Q (.exit 2) e' H') : WL S b70_1 e H Q := by
  have hlen := right_len hr
  have hall := right_all hr
  refine l70_1 S (fun d e H => ∃ s : Nat, s ≤ l.length ∧ d = l.length - s ∧ CI N H0 a c l n s e H ∧ e 19 = .slice a l.length c ∧ e 20 = .int .i64 l.length ∧ e 21 = .int .i64 s) l.length ⟨0, by omega, by omega, hc, e19, e20, e21⟩ ?_
  rintro d e H ⟨s, hs, rfl, ⟨hk, ho, e0, e4, e5, e6⟩, e19, e20, e21⟩
  by_cases h3 : s < l.length
  · obtain ⟨b, o, cs, rw, rfl, hg0, hcs⟩ := hl (by omega)
    have hg := (hk.2 b (by rw [← hN]; exact lt_cells hg0)).trans hg0
    obtain ⟨x, hx⟩ : ∃ x, l[s]? = some x := ⟨_, List.getElem?_eq_getElem h3⟩
    have hcx := hcs s x hx
    have hax := at0_of hx
    have hw : IntKind.i64.wrap ((s : Int) + 1) = (s : Int) + 1 := wi (by omega) (by omega)
    have hcb := code_bd hall hlen h1 h2 (show s ≤ l.length by omega)
    have hsu := laidAt_succ (n := n) h3 h1
    have hca : codeAt l n (s + 1) = codeAt l n s + if at0 l s = n then 1 else 0 := by
      cases n with
      | zero => omega
      | succ n => simp [codeAt]
    by_cases g : x = n
    · have hw2 : IntKind.i64.wrap (codeAt l n s + 1) = codeAt l n s + 1 := wi (by omega) (by omega)
      have hlt := lt_cells ho
      have hkst : kSt H (.pointer (some ⟨N, s, none⟩)) (.int .i64 (codeAt l n s)) = some (H.put N (.cells (ints (laidAt l n (s + 1))) 3 true)) := by
        have ho' : H.get N = .cells (ints (laidAt l n s)) 3 true := ho
        rw [hsu, if_pos (by rw [hax, g])]
        simp [kSt, ho', oneC, ints, laidAt_len, h3, List.map_set]
      simp [s70_1, e0, e4, e5, e6, e19, e20, e21, h3, addOff, hg, hcx, g, hw, hw2, hkst]
      refine ⟨l.length - (s + 1), by omega, s + 1, by omega, rfl, ⟨hk.trans (Kp.put (Nat.le_refl _)), get_put_eq hlt, by simp [e0], by simp [e4], ?_, by simp [e6]⟩, by simp⟩
      rw [hca, if_pos (by rw [hax, g])]; simp
    · simp [s70_1, e0, e4, e5, e6, e19, e20, e21, h3, addOff, hg, hcx, g, hw]
      refine ⟨l.length - (s + 1), by omega, s + 1, by omega, rfl, ⟨hk, ?_, by simp [e0], by simp [e4], ?_, by simp [e6]⟩, by simp⟩
      · rw [hsu, if_neg (by rw [hax]; exact g)]; exact ho
      · rw [hca, if_neg (by rw [hax]; exact g)]; simp [e5]
  · have h5 : s = l.length := by omega
    subst h5
    simp [s70_1, e20, e21]
    exact hQ _ _ ⟨hk, ho, by simp [e0], by simp [e4], by simp [e5], by simp [e6]⟩
/-- numbers, as a slice of a block of its own -/
theorem Codes_t {H : Heap} {a : Option Addr} {c : Nat} {l : List Int} (hl : Iv H a l) (hm : (l.length : Int) ≤ 9223372036854775807) :
    Wf S 70 [.slice a l.length c] H fun v H' => Kp H.next H H' ∧ ((wholeB l = false ∧ v = .tuple #[.slice none 0 0, .bool false]) ∨ (wholeB l = true ∧ ∃ b, v = .tuple #[.slice (some ⟨b, 0, none⟩) l.length l.length, .bool true] ∧ H.next ≤ b ∧ Own H' b (codes l))) := by
  refine w70 rfl rfl _ ?_
  simp [s70]
  refine (Whole_t hl hm).mono ?_
  rintro v H1 ⟨rfl, rfl⟩
  by_cases hw : wholeB l = true
  · have hr : rightB l = true := by simp only [wholeB, Bool.and_eq_true] at hw; exact hw.1
    have hlen := right_len hr
    have hall := right_all hr
    have m1 : (l.length : Int) ≤ 9223372036854775807 := by omega
    have m2 : 8 * (l.length : Int) ≤ 281474976710656 := by omega
    simp [hw, kMks, m1, m2]
    refine l70_0 S (fun d e H => ∃ n : Nat, 1 ≤ n ∧ n ≤ 12 ∧ d = 12 - n ∧ Kp H1.next H1 H ∧ Own H H1.next (laidAt l n 0) ∧ e 0 = .slice a l.length c ∧ e 4 = .slice (some ⟨H1.next, 0, none⟩) l.length l.length ∧ e 5 = .int .i64 (codeAt l n 0) ∧ e 6 = .int .i64 n) 11 ⟨1, by omega, by omega, by omega, Kp.push (Nat.le_refl _), ?_, by simp, by simp, by simp [codeAt], by simp⟩ ?_
    · unfold Own
      rw [get_last, laidAt_start]
      simp [ints, zeros]
    rintro d e H ⟨n, hn1, hn2, rfl, hk, ho, e0, e4, e5, e6⟩
    by_cases h11 : n ≤ 11
    · have h11' : (n : Int) ≤ 11 := by omega
      simp [s70_0, e0, e4, e5, e6, h11, h11']
      refine codesIn_t (N := H1.next) (H0 := H1) (n := n) (c := c) hl rfl hr hn1 h11 ⟨hk, ho, by simp [e0], by simp [e4], by simp [e5], by simp [e6]⟩ (by simp) (by simp) (by simp) ?_
      intro e' H' ⟨hk', ho', f0, f4, f5, f6⟩
      have hcb := code_bd hall hlen hn1 h11 (Nat.le_refl l.length)
      have hw1 : IntKind.i64.wrap ((n : Int) + 1) = (n : Int) + 1 := wi (by omega) (by omega)
      have hw2 : IntKind.i64.wrap (codeAt l n l.length * 2 ^ min 1 IntKind.i64.bits) = codeAt l n l.length * 2 := by
        have hb : min 1 IntKind.i64.bits = 1 := by decide
        rw [hb, Int.pow_one]; exact wi (by omega) (by omega)
      simp [f0, f4, f5, f6, kb_shl, hw1, hw2]
      refine ⟨12 - (n + 1), by omega, n + 1, by omega, by omega, rfl, hk', ?_, ?_, by omega⟩
      · rw [laidAt_next]; exact ho'
      · simp [codeAt]; omega
    · have h5 : n = 12 := by omega
      subst h5
      simp [s70_0, e4, e6, tup]
      refine ⟨hk, ?_⟩
      rw [← laidAt_end fun k => (hall k).2]; exact ho
  · have hw' : wholeB l = false := by simpa using hw
    simp [hw', tup]
    exact Kp.refl _ _
end
end Go.Proofs.Ytlboioplemlneaa.K
