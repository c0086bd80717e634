/- A symbol's bits, as the document reads them. -/
import Derived.Test.YtlboioplemlneaaPBitsF
import Derived.Test.YtlboioplemlneaaPHuffD
set_option maxRecDepth 100000
set_option maxHeartbeats 2000000
set_option linter.unusedVariables false
set_option linter.unusedSimpArgs false
namespace Go.Proofs.Ytlboioplemlneaa.K
open Go Go.Proofs
section
variable {H : Heap}
/-- a code's first j bits of n, the first one first -/
def topB (c n j : Nat) : List Int := (List.range j).map fun i => ((c / 2 ^ (n - 1 - i) % 2 : Nat) : Int)
theorem topB_succ (c n j : Nat) : topB c n (j + 1) = topB c n j ++ [((c / 2 ^ (n - 1 - j) % 2 : Nat) : Int)] := by simp [topB, List.range_succ]
/-- a symbol's bits -/
def codeB (l : List Int) (s : Nat) : List Int := topB (codeOf l s).toNat (at0 l s).toNat (at0 l s).toNat
structure CodeI (H0 : Heap) (c n : Nat) (d : Nat) (e : Nat → Value) (H : Heap) (j : Nat) : Prop where
  h1 : j ≤ n
  h2 : d = n - j
  hk : Kp H0.next H0 H
  hA : Acc 3 1 H0.next H.next H (e 5) j (ivs (topB c n j))
  e6 : e 6 = .int .i64 (c : Int)
  e7 : e 7 = .int .i64 ((n : Int) - 1 - j)
theorem Code_t {a : Option Addr} {c : Nat} {l : List Int} {s : Nat} (hl : Iv H a l) (hr : rightB l = true) (hs : s < l.length) (hp : 0 < at0 l s) :
    Wf S 67 [.slice a l.length c, .int .i64 s] H fun r H' => Kp H.next H H' ∧ Acc 3 1 H.next H'.next H' r (at0 l s).toNat (ivs (codeB l s)) := by
  have hlen := right_len hr
  have hall := right_all hr
  refine w67 rfl rfl _ _ ?_
  simp [s67]
  refine (rCodes_t hl hr).mono ?_
  rintro v H1 ⟨hk1, rfl, ho⟩
  have hl1 := hl.kp hk1
  obtain ⟨b, o, cs, rw, rfl, hg, hc⟩ := hl1 (by omega)
  obtain ⟨x, hx⟩ : ∃ x, l[s]? = some x := ⟨_, List.getElem?_eq_getElem hs⟩
  have hcx := hc _ x hx
  have hax := at0_of hx
  have hxb := hall s
  rw [hax] at hxb hp
  obtain ⟨n, hn⟩ : ∃ n, n = x.toNat := ⟨_, rfl⟩
  have hcb := code_bd hall hlen (n := x.toNat) (s := s) (by omega) (by omega) (by omega)
  have hco : codeOf l s = codeAt l x.toNat s := by unfold codeOf; rw [hax, if_pos hp]
  rw [← hco] at hcb
  obtain ⟨q, hq⟩ : ∃ q, q = (codeOf l s).toNat := ⟨_, rfl⟩
  have hqi : codeOf l s = (q : Int) := by omega
  have hcq : (ints (codes l))[s]? = some (.int .i64 (q : Int)) := by simp [ints, codes, hs, hqi]
  have hg1 : H1.get H.next = .cells (ints (codes l)) 3 true := ho
  have hxn : x = (n : Int) := by omega
  have w1 : IntKind.i64.wrap (x - 1) = (n : Int) - 1 := by rw [wi (by omega) (by omega)]; omega
  have hcB : codeB l s = topB q n n := by unfold codeB; rw [hax, ← hn, ← hq]
  rw [hcB, hax, ← hn]
  simp [hs, addOff, hg1, hcq, hg, hcx, w1]
  refine l67_0 S (fun d e H' => ∃ j, CodeI H1 q n d e H' j) n ⟨0, by omega, by omega, Kp.refl _ _, by simpa [topB, ivs] using Acc.nil, by simp, by simp⟩ ?_
  rintro d e H' ⟨j, hj, rfl, hk, hA, e6, e7⟩
  by_cases h3 : j < n
  · obtain ⟨i, hi⟩ : ∃ i, i = n - 1 - j := ⟨_, rfl⟩
    have hii : (n : Int) - 1 - j = (i : Int) := by omega
    rw [hii] at e7
    obtain ⟨D, hD⟩ : ∃ D, D = q / 2 ^ i := ⟨_, rfl⟩
    obtain ⟨B, hB⟩ : ∃ B, B = D % 2 := ⟨_, rfl⟩
    have hDq : D ≤ q := by rw [hD]; exact Nat.div_le_self _ _
    have hpp := p2_pos i
    have hp2 : p2 i = ((2 ^ i : Nat) : Int) := by unfold p2; exact_mod_cast rfl
    have hdv : (q : Int).tdiv (p2 i) = (D : Int) := by rw [Int.tdiv_eq_ediv_of_nonneg (by omega), hp2, hD]; exact_mod_cast rfl
    have hne : ¬ p2 i = 0 := by omega
    have w2 : IntKind.i64.wrap (D : Int) = D := wi (by omega) (by omega)
    have w3 : IntKind.i64.wrap ((i : Int) - 1) = (n : Int) - 1 - (j + 1 : Nat) := by rw [wi (by omega) (by omega)]; omega
    have hm : (D : Int).tmod 2 = (B : Int) := by rw [hB, Int.tmod_eq_emod_of_nonneg (by omega)]; omega
    obtain ⟨v2, H2, hap, hA2, hn2, hk2⟩ := hA.app (bytes := 8) (new := [.int .i64 (B : Int)]) hk.1 (Nat.le_refl _) rfl (by unfold roomMax; omega)
    simp [s67_0, e6, e7]
    refine (Size_t H' i (by omega)).mono ?_
    rintro v H3 ⟨rfl, rfl⟩
    simp [e6, e7, hne, hdv, w2, hm, kFill, evPs, isTup, cellsL, wr, kRow, rd, hap, w3]
    refine ⟨n - (j + 1), by omega, j + 1, by omega, rfl, ⟨by have := hk.1; omega, fun k hk' => (hk2 k (by have := hk.1; omega) (.inl hk')).trans (hk.2 k hk')⟩, ?_, by simp [e6], by simp⟩
    rw [topB_succ, ← hi, ← hD, ← hB]
    simpa [ivs] using hA2
  · have h5 : j = n := by omega
    subst h5
    have hneg : (j : Int) - 1 - j = -1 := by omega
    rw [hneg] at e7
    simp [s67_0, e7]
    have hkk : Kp H.next H H' := hk1.trans (hk.mono hk1.1)
    refine ⟨hkk, ?_⟩
    rcases hA with h | ⟨b', c', q1, q2, q3, q4, q5, q6⟩
    · exact .inl h
    · exact .inr ⟨b', c', by have := hk1.1; omega, q2, q3, q4, q5, q6⟩
end
end Go.Proofs.Ytlboioplemlneaa.K
