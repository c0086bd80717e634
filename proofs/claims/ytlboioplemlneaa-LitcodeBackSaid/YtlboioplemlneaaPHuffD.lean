/- Codes of unlike lengths: the document's codes, and whether numbers are the same. -/
import Derived.Test.YtlboioplemlneaaPHuffC
set_option maxRecDepth 100000
set_option maxHeartbeats 2000000
set_option linter.unusedVariables false
set_option linter.unusedSimpArgs false
namespace Go.Proofs.Ytlboioplemlneaa.K
open Go Go.Proofs
section
variable {H : Heap} {a : Option Addr} {c : Nat} {l : List Int}
theorem before_bd {l : List Int} (hall : ∀ k, 0 ≤ at0 l k ∧ at0 l k ≤ 11) (x : Int) (s k : Nat) : 0 ≤ sumTo (before l x s) k ∧ sumTo (before l x s) k ≤ 1024 * k := by
  induction k with
  | zero => simp [sumTo]
  | succ k ih =>
    have h1 := before_nonneg l x s k
    have h2 : before l x s k ≤ 1024 := by
      unfold before
      split
      · exact part_le (by omega)
      · omega
    simp only [sumTo]; omega
theorem ahead_in {i : Nat} {x : Int} {e : Fe} {Q : Kx} (hl : Iv H a l) (hlen : l.length ≤ 256) (hall : ∀ k, 0 ≤ at0 l k ∧ at0 l k ≤ 11) (hx : l[i]? = some x) (e0 : e 0 = .slice a l.length c) (e4 : e 4 = .int .i64 i) (e5 : e 5 = .int .i64 0) (e6 : e 6 = .int .i64 0)
    (hQ : ∀ e', e' 0 = .slice a l.length c → e' 3 = e 3 → e' 4 = .int .i64 i → e' 5 = .int .i64 (ahead l x i) → Q (.exit 2) e' H) : WL S b108_1 e H Q := by
  refine l108_1 S (fun d e' H' => ∃ k : Nat, k ≤ l.length ∧ d = l.length - k ∧ H' = H ∧ e' 0 = .slice a l.length c ∧ e' 3 = e 3 ∧ e' 4 = .int .i64 i ∧ e' 5 = .int .i64 (sumTo (before l x i) k) ∧ e' 6 = .int .i64 k) l.length ⟨0, by omega, by omega, rfl, e0, rfl, e4, by simpa [sumTo] using e5, e6⟩ ?_
  rintro d e' H' ⟨k, hk, rfl, rfl, f0, f3, f4, f5, f6⟩
  by_cases h3 : k < l.length
  · obtain ⟨b, o, cs, rw, rfl, hg, hc⟩ := hl (by omega)
    obtain ⟨y, hy⟩ : ∃ y, l[k]? = some y := ⟨_, List.getElem?_eq_getElem h3⟩
    have hcy := hc k y hy
    have hcx := hc i x hx
    have hi := (List.getElem?_eq_some_iff.1 hx).1
    have hay := at0_of hy
    have hyb := hall k
    rw [hay] at hyb
    have hw : IntKind.i64.wrap ((k : Int) + 1) = (k : Int) + 1 := wi (by omega) (by omega)
    have hbd := before_bd hall x i k
    have hpl : 0 < y → part y ≤ 1024 := fun h => part_le (by omega)
    have hpp := part_pos y
    have hw2 : IntKind.i64.wrap (11 - y) = ((11 - y).toNat : Int) := by rw [wi (by omega) (by omega)]; omega
    by_cases g : 0 < y ∧ (y < x ∨ y = x ∧ k < i)
    · have hbe : before l x i k = part y := by unfold before; rw [hay, if_pos g]
      have hpl' := hpl g.1
      have hw4 : IntKind.i64.wrap (sumTo (before l x i) k + part y) = sumTo (before l x i) k + part y := wi (by omega) (by omega)
      have hpe : p2 (11 - y).toNat = part y := rfl
      by_cases g2 : y < x
      · simp [s108_1, f0, f4, f5, f6, h3, hi, addOff, hg, hcy, hcx, g.1, g2]
        rw [hw2]
        refine (Size_t H' (11 - y).toNat (by omega)).mono ?_
        rintro v H2 ⟨rfl, rfl⟩
        simp [f0, f3, f4, f5, f6, hpe, hw, hw4]
        exact ⟨l.length - (k + 1), by omega, k + 1, by omega, rfl, by simp [sumTo, hbe], by omega⟩
      · have g3 : y = x := by omega
        have g4 : k < i := by omega
        subst g3
        simp [s108_1, f0, f4, f5, f6, h3, hi, addOff, hg, hcy, hcx, g.1, g4]
        rw [hw2]
        refine (Size_t H' (11 - y).toNat (by omega)).mono ?_
        rintro v H2 ⟨rfl, rfl⟩
        simp [f0, f3, f4, f5, f6, hpe, hw, hw4]
        exact ⟨l.length - (k + 1), by omega, k + 1, by omega, rfl, by simp [sumTo, hbe], by omega⟩
    · have hbe : before l x i k = 0 := by unfold before; rw [hay, if_neg g]
      by_cases g1 : 0 < y
      · have g2 : ¬ y < x := fun e => g ⟨g1, .inl e⟩
        by_cases g3 : y = x
        · have g4 : ¬ k < i := fun e => g ⟨g1, .inr ⟨g3, e⟩⟩
          subst g3
          simp [s108_1, f0, f3, f4, f5, f6, h3, hi, addOff, hg, hcy, hcx, g1, g4, hw]
          exact ⟨l.length - (k + 1), by omega, k + 1, by omega, rfl, by simp [sumTo, hbe], by omega⟩
        · simp [s108_1, f0, f3, f4, f5, f6, h3, hi, addOff, hg, hcy, hcx, g1, g2, g3, hw]
          exact ⟨l.length - (k + 1), by omega, k + 1, by omega, rfl, by simp [sumTo, hbe], by omega⟩
      · simp [s108_1, f0, f3, f4, f5, f6, h3, hi, addOff, hg, hcy, hcx, g1, hw]
        exact ⟨l.length - (k + 1), by omega, k + 1, by omega, rfl, by simp [sumTo, hbe], by omega⟩
  · have h5 : k = l.length := by omega
    subst h5
    simp [s108_1, f0, f6]
    exact hQ _ (by simp [f0]) (by simp [f3]) (by simp [f4]) (by simp [f5, ahead])
def upto (l : List Int) (i : Nat) : List Int := (List.range l.length).map fun k => if k < i then codeOf l k else 0
theorem upto_len (l : List Int) (i : Nat) : (upto l i).length = l.length := by simp [upto]
theorem upto_get {i k : Nat} (hk : k < l.length) : (upto l i)[k]? = some (if k < i then codeOf l k else 0) := by simp [upto, hk]
theorem upto_succ {i : Nat} (hi : i < l.length) : upto l (i + 1) = (upto l i).set i (codeOf l i) := by
  apply List.ext_getElem?
  intro k
  by_cases hk : k < l.length
  · rw [upto_get hk, List.getElem?_set]
    by_cases h : i = k
    · subst h
      rw [if_pos rfl, if_pos (show i < (upto l i).length by rw [upto_len]; exact hi), if_pos (by omega)]
    · rw [if_neg h, upto_get hk]
      congr 1
      exact ite_iff (fun hh => by omega) (fun hh => by omega)
  · rw [List.getElem?_eq_none (by rw [upto_len]; omega), List.getElem?_eq_none (by rw [List.length_set, upto_len]; omega)]
theorem upto_skip {i : Nat} (hi : i < l.length) (h0 : codeOf l i = 0) : upto l (i + 1) = upto l i := by
  apply List.ext_getElem?
  intro k
  by_cases hk : k < l.length
  · rw [upto_get hk, upto_get hk]
    congr 1
    by_cases h : k = i
    · subst h; rw [if_pos (by omega), if_neg (by omega), h0]
    · exact ite_iff (fun hh => by omega) (fun hh => by omega)
  · rw [List.getElem?_eq_none (by rw [upto_len]; omega), List.getElem?_eq_none (by rw [upto_len]; omega)]
theorem upto_end : upto l l.length = codes l := by
  unfold upto codes
  refine List.map_congr_left fun k hk => ?_
  have : k < l.length := by simpa using hk
  rw [if_pos this]
theorem rCodes_t (hl : Iv H a l) (hr : rightB l = true) :
    Wf S 108 [.slice a l.length c] H fun v H' => Kp H.next H H' ∧ v = .slice (some ⟨H.next, 0, none⟩) l.length l.length ∧ Own H' H.next (codes l) := by
  have hlen := right_len hr
  have hall := right_all hr
  refine w108 rfl rfl _ ?_
  have m1 : (l.length : Int) ≤ 9223372036854775807 := by omega
  have m2 : 8 * (l.length : Int) ≤ 281474976710656 := by omega
  simp [s108, kMks, m1, m2]
  refine l108_0 S (fun d e H' => ∃ i : Nat, i ≤ l.length ∧ d = l.length - i ∧ Kp H.next H H' ∧ Own H' H.next (upto l i) ∧ e 0 = .slice a l.length c ∧ e 3 = .slice (some ⟨H.next, 0, none⟩) l.length l.length ∧ e 4 = .int .i64 i) l.length ⟨0, by omega, by omega, Kp.push (Nat.le_refl _), ?_, by simp, by simp, by simp⟩ ?_
  · unfold Own
    rw [get_last]
    simp [ints, zeros, upto, List.map_const']
  rintro d e H' ⟨i, hi, rfl, hk, ho, e0, e3, e4⟩
  by_cases h3 : i < l.length
  · have hl' : Iv H' a l := hl.kp hk
    have hl2 := hl'
    obtain ⟨b, o, cs, rw, rfl, hg, hc⟩ := hl' (by omega)
    obtain ⟨x, hx⟩ : ∃ x, l[i]? = some x := ⟨_, List.getElem?_eq_getElem h3⟩
    have hcx := hc i x hx
    have hax := at0_of hx
    have hxb := hall i
    rw [hax] at hxb
    have hw : IntKind.i64.wrap ((i : Int) + 1) = (i : Int) + 1 := wi (by omega) (by omega)
    by_cases g0 : x = 0
    · subst g0
      simp [s108_0, e0, e3, e4, h3, addOff, hg, hcx, hw]
      refine ⟨l.length - (i + 1), by omega, i + 1, by omega, rfl, hk, ?_, by omega⟩
      rw [upto_skip h3 (by unfold codeOf; rw [hax]; simp)]; exact ho
    · have hnn : 0 < at0 l i := by rw [hax]; omega
      obtain ⟨hd1, hd2⟩ := codeOf_div h3 hnn (by rw [hax]; exact hxb.2)
      rw [hax] at hd1 hd2
      simp [s108_0, e0, e3, e4, h3, addOff, hg, hcx, g0]
      refine ahead_in (i := i) (x := x) (c := c) hl2 hlen hall hx (by simp [e0]) (by simp [e4]) (by simp) (by simp) ?_
      intro e' f0 f3 f4 f5
      have hw2 : IntKind.i64.wrap (11 - x) = ((11 - x).toNat : Int) := by rw [wi (by omega) (by omega)]; omega
      simp [f0, f4, h3, addOff, hg, hcx]
      rw [hw2]
      refine (Size_t H' (11 - x).toNat (by omega)).mono ?_
      rintro v H2 ⟨rfl, rfl⟩
      have hpe : p2 (11 - x).toNat = part x := rfl
      have hp := part_pos x
      have hp0 : ¬ part x = 0 := by omega
      have han := ahead_nonneg l x i
      have hbd := before_bd hall x i l.length
      have hae : ahead l x i = sumTo (before l x i) l.length := rfl
      have htd : (ahead l x i).tdiv (part x) = codeOf l i := by rw [Int.tdiv_eq_ediv_of_nonneg han, hd1]
      have hcn : 0 ≤ codeOf l i ∧ codeOf l i ≤ ahead l x i := by
        rw [hd1]
        exact ⟨Int.ediv_nonneg han (by omega), Int.ediv_le_self _ han⟩
      have hw3 : IntKind.i64.wrap (codeOf l i) = codeOf l i := wi (by omega) (by omega)
      have hlt := lt_cells ho
      have hkst : kSt H2 (.pointer (some ⟨H.next, i, none⟩)) (.int .i64 (codeOf l i)) = some (H2.put H.next (.cells (ints (upto l (i + 1))) 3 true)) := by
        have ho' : H2.get H.next = .cells (ints (upto l i)) 3 true := ho
        rw [upto_succ h3]
        simp [kSt, ho', oneC, ints, upto_len, h3, List.map_set]
      simp [f0, f3, f4, f5, e3, hpe, hp0, htd, hw3, h3, addOff, hkst, hw]
      exact ⟨l.length - (i + 1), by omega, i + 1, by omega, rfl, hk.trans (Kp.put (Nat.le_refl _)), get_put_eq hlt, by omega⟩
  · have h5 : i = l.length := by omega
    subst h5
    simp [s108_0, e0, e3, e4]
    exact ⟨hk, by rw [← upto_end]; exact ho⟩
end
end Go.Proofs.Ytlboioplemlneaa.K
