/- Bytes of a code, as the document reads them. -/
import Derived.Test.YtlboioplemlneaaPBitsR
import Derived.Test.YtlboioplemlneaaPIs
set_option maxRecDepth 100000
set_option maxHeartbeats 2000000
set_option linter.unusedVariables false
set_option linter.unusedSimpArgs false
namespace Go.Proofs.Ytlboioplemlneaa.K
open Go Go.Proofs
/-- codes that stand in an array at x, each in a block of its own below M -/
def CdS (H : Heap) (x M : Nat) (l : List Int) (j : Nat) : Prop := ∃ cs, H.get x = .cells cs 95 true ∧ cs.length = 256 ∧
  ∀ k, k < j → 0 < at0 l k → ∃ a c, cs[k]? = some (.slice a (at0 l k).toNat c) ∧ ∃ b o cs', a = some ⟨b, o, none⟩ ∧ b < M ∧ b ≠ x ∧ H.get b = .cells cs' 3 true ∧ ∀ (i : Nat) y, (codeB l k)[i]? = some y → cs'[o + i]? = some (.int .i64 y)
theorem CdS.of {H H' : Heap} {x M M' : Nat} {l : List Int} {j : Nat} (h : CdS H x M l j) (hx : x < M) (hk : ∀ k, k < M → H'.get k = H.get k) (hM : M ≤ M') : CdS H' x M' l j := by
  obtain ⟨cs, h1, h2, h3⟩ := h
  refine ⟨cs, (hk x hx).trans h1, h2, fun k hkj hp => ?_⟩
  obtain ⟨a, c, q1, b, o, cs', q2, q3, q4, q5, q6⟩ := h3 k hkj hp
  exact ⟨a, c, q1, b, o, cs', q2, by omega, q4, (hk b q3).trans q5, q6⟩
section
variable {H : Heap} {a : Option Addr} {c : Nat} {l : List Int} {s : Bytes}
structure CdI (H0 : Heap) (a : Option Addr) (c : Nat) (l : List Int) (a1 a2 : Value) (d : Nat) (e : Fe) (H : Heap) (j : Nat) : Prop where
  h1 : j ≤ l.length
  h2 : d = l.length - j
  kp : Kp H0.next H0 H
  lt : H0.next < H.next
  cd : CdS H H0.next H.next l j
  e0 : e 0 = .slice a l.length c
  e1 : e 1 = a1
  e2 : e 2 = a2
  e8 : e 8 = .pointer (some ⟨H0.next, 0, none⟩)
  e9 : e 9 = .int .i64 j
theorem codesLoop_t {H0 H : Heap} {e : Fe} {Q : Kx} {a1 a2 : Value} (hl : Iv H0 a l) (hr : rightB l = true) (hc : CdI H0 a c l a1 a2 l.length e H 0)
    (hQ : ∀ e' H', CdI H0 a c l a1 a2 0 e' H' l.length → Q (.exit 0) e' H') : WL S b24_2 e H Q := by
  have hlen := right_len hr
  have hall := right_all hr
  refine l24_2 S (fun d e H' => ∃ j, CdI H0 a c l a1 a2 d e H' j) l.length ⟨0, hc⟩ ?_
  rintro d e H' ⟨j, hj, rfl, hkp, hlt, hcd, e0, e1, e2, e8, e9⟩
  by_cases h3 : j < l.length
  · have hl' := hl.kp hkp
    obtain ⟨b, o, cs, rw, rfl, hg, hcs⟩ := hl' (by omega)
    obtain ⟨x, hx⟩ : ∃ x, l[j]? = some x := ⟨_, List.getElem?_eq_getElem h3⟩
    have hcx := hcs j x hx
    have hax := at0_of hx
    have hxb := hall j
    rw [hax] at hxb
    have w2 : IntKind.i64.wrap ((j : Int) + 1) = (j : Int) + 1 := wi (by omega) (by omega)
    by_cases g : 0 < x
    · simp [s24_2, e0, e1, e2, e8, e9, h3, addOff, hg, hcx, g]
      refine (Code_t (c := c) (hl.kp hkp) hr h3 (by rw [hax]; exact g)).mono ?_
      rintro v H4 ⟨hk4, hA4⟩
      have hcd4 := hcd.of hlt (fun k hk => hk4.2 k hk) hk4.1
      obtain ⟨cs4, g1, g2, g3⟩ := hcd4
      have hn4 := hk4.1
      have hj6 : j < 256 := by omega
      have hj6' : (j : Int) < 256 := by omega
      obtain ⟨a5, c5, rfl, h5⟩ := hA4.len
      rcases hA4 with ⟨h0, _, _⟩ | ⟨b4, c4, r1, r2, r3, r4, r5, r6⟩
      · rw [hax] at h0; omega
      obtain ⟨rfl, _, rfl⟩ := (Value.slice.injEq _ _ _ _ _ _).mp r3
      have hst : kSt H4 (.pointer (some ⟨H0.next, j, none⟩)) (.slice (some ⟨b4, 0, none⟩) (at0 l j).toNat c5) = some (H4.put H0.next (.cells (cs4.set j (.slice (some ⟨b4, 0, none⟩) (at0 l j).toNat c5)) 95 true)) := by
        simp [kSt, g1, g2, hj6, oneC]
      simp [hj6, hj6', hst, w2, e8, e9]
      refine ⟨l.length - (j + 1), by omega, j + 1, by omega, rfl, hkp.trans ((hk4.mono (by omega)).trans (Kp.put (Nat.le_refl _))), by rw [next_put]; omega, ⟨_, get_put_eq (by omega), by simp [g2], fun k hk hp => ?_⟩, by simp [e0], by simp [e1], by simp [e2], by simp [e8], by simp⟩
      by_cases hkj : k = j
      · subst hkj
        refine ⟨_, c5, by rw [List.getElem?_set_self (by omega)], b4, 0, _, rfl, by rw [next_put]; omega, by omega, (get_put_ne (by omega)).trans r5, fun i y hy => by rw [Nat.zero_add]; exact ivs_get hy⟩
      · obtain ⟨a6, c6, q1, b6, o6, cs6, q2, q3, q4, q5, q6⟩ := g3 k (by omega) hp
        exact ⟨a6, c6, by rw [List.getElem?_set_ne (by omega)]; exact q1, b6, o6, cs6, q2, by rw [next_put]; exact q3, q4, (get_put_ne q4).trans q5, q6⟩
    · simp [s24_2, e0, e1, e2, e8, e9, h3, addOff, hg, hcx, g, w2]
      refine ⟨l.length - (j + 1), by omega, j + 1, by omega, rfl, hkp, hlt, ?_, by simp [e0], by simp [e1], by simp [e2], by simp [e8], by simp⟩
      obtain ⟨cs4, g1, g2, g3⟩ := hcd
      refine ⟨cs4, g1, g2, fun k hk hp => ?_⟩
      by_cases hkj : k = j
      · subst hkj; rw [hax] at hp; omega
      · exact g3 k (by omega) hp
  · have h5 : j = l.length := by omega
    subst h5
    simp [s24_2, e0, e9]
    exact hQ _ _ ⟨Nat.le_refl _, by omega, hkp, hlt, hcd, by simp [e0], by simp [e1], by simp [e2], by simp [e8], by simp [e9]⟩
theorem beg_iff {at_ k : Nat} (hw : wholeB l = true) (hk : k < l.length) (hp : 0 < at0 l k) : ((bitsB s).drop at_).take (codeB l k).length = codeB l k ↔ Beg l s at_ k := by
  have hr : rightB l = true := by simp only [wholeB, Bool.and_eq_true] at hw; exact hw.1
  have hall := right_all hr
  have hlen := right_len hr
  have htot : total l ≤ 2048 := by
    simp only [wholeB, Bool.and_eq_true, Bool.or_eq_true, decide_eq_true_eq] at hw
    rcases hw.2 with h | h <;> omega
  have hc := code_lt hall hk hp htot
  have hcn : (codeOf l k).toNat < 2 ^ (at0 l k).toNat := by
    have e : p2 (at0 l k).toNat = ((2 ^ (at0 l k).toNat : Nat) : Int) := by unfold p2; exact_mod_cast rfl
    omega
  rw [codeB_len]
  by_cases hn : at_ + (at0 l k).toNat ≤ 8 * s.length
  · have := begins_iff (s := s) (a := at_) (c := (codeOf l k).toNat) (n := (at0 l k).toNat) hcn hn
    unfold codeB
    rw [this]
    exact ⟨fun h => ⟨hk, hp, hn, h⟩, fun h => h.2.2.2⟩
  · constructor
    · intro h
      have := congrArg List.length h
      rw [List.length_take, List.length_drop, bitsB_len, codeB_len] at this
      omega
    · intro h; exact absurd h.2.2.1 hn
structure MetI (HH : Heap) (l : List Int) (s : Bytes) (at_ : Nat) (ef : Fe) (d : Nat) (e : Fe) (H : Heap) (k : Nat) : Prop where
  h1 : k ≤ l.length
  h2 : d = l.length - k
  hH : H = HH
  fr : e 0 = ef 0 ∧ e 2 = ef 2 ∧ e 8 = ef 8 ∧ e 10 = ef 10 ∧ e 11 = ef 11 ∧ e 12 = ef 12
  m : (e 13 = .int .i64 (-1) ∧ ∀ k', k' < k → ¬ Beg l s at_ k') ∨ ∃ k', k' < k ∧ Beg l s at_ k' ∧ e 13 = .int .i64 (k' : Int)
  e14 : e 14 = .int .i64 k
theorem metLoop_t {H : Heap} {e : Fe} {Q : Kx} {x M at_ : Nat} {v : Value} (hl : Iv H a l) (hw : wholeB l = true) (hcd : CdS H x M l l.length) (hv : Is H v ((bitsB s).drop at_)) (hs : s.length ≤ 100000)
    (e0 : e 0 = .slice a l.length c) (e8 : e 8 = .pointer (some ⟨x, 0, none⟩)) (e10 : e 10 = v) (e13 : e 13 = .int .i64 (-1)) (e14 : e 14 = .int .i64 0)
    (hQ : ∀ e', MetI H l s at_ e 0 e' H l.length → Q (.exit 4) e' H) : WL S b24_3 e H Q := by
  have hr : rightB l = true := by simp only [wholeB, Bool.and_eq_true] at hw; exact hw.1
  have hlen := right_len hr
  have hall := right_all hr
  obtain ⟨va, vc, rfl, hiv⟩ := hv.iv
  obtain ⟨cs4, g1, g2, g3⟩ := hcd
  refine l24_3 S (fun d e' H' => ∃ k, MetI H l s at_ e d e' H' k) l.length ⟨0, by omega, by omega, rfl, ⟨rfl, rfl, rfl, rfl, rfl, rfl⟩, .inl ⟨e13, by omega⟩, e14⟩ ?_
  rintro d e' H' ⟨k, hk, rfl, rfl, fr, hm, q14⟩
  have q0 := fr.1.trans e0
  have q8 := fr.2.2.1.trans e8
  have q10 := fr.2.2.2.1.trans e10
  by_cases h3 : k < l.length
  · obtain ⟨b, o, cs, rw, rfl, hg, hcs⟩ := hl (by omega)
    obtain ⟨y, hy⟩ : ∃ y, l[k]? = some y := ⟨_, List.getElem?_eq_getElem h3⟩
    have hcy := hcs k y hy
    have hay := at0_of hy
    have w2 : IntKind.i64.wrap ((k : Int) + 1) = (k : Int) + 1 := wi (by omega) (by omega)
    have k256 : k < 256 := by omega
    have k256' : (k : Int) < 256 := by omega
    by_cases g : 0 < y
    · obtain ⟨a6, c6, r1, b6, o6, cs6, rfl, r3, r4, r5, r6⟩ := g3 k h3 (by rw [hay]; exact g)
      have hivc : Iv H' (some ⟨b6, o6, none⟩) (codeB l k) := fun _ => ⟨b6, o6, cs6, true, rfl, r5, r6⟩
      have hbeg := beg_iff (s := s) (at_ := at_) hw h3 (by rw [hay]; exact g)
      have hbl := bitsB_len s
      have hcl := codeB_len (l := l) (s := k)
      have hab := hall k
      have hst := begins_t (c := vc) (c2 := c6) hiv hivc (by rw [List.length_drop]; omega) (by omega)
      rw [hcl] at hst
      simp [s24_3, q0, q8, q10, q14, h3, addOff, hg, hcy, g, k256, k256', g1, r1]
      rw [List.length_drop] at hst
      refine hst.mono ?_
      rintro r H2 ⟨rfl, rfl⟩
      rw [← hcl]
      by_cases hb : Beg l s at_ k
      · have := hbeg.2 hb
        simp [this, q14, w2]
        exact ⟨l.length - (k + 1), by omega, k + 1, by omega, rfl, rfl, by simp [fr], .inr ⟨k, by omega, hb, by simp⟩, by simp⟩
      · have hnb : ¬ ((bitsB s).drop at_).take (codeB l k).length = codeB l k := fun h => hb (hbeg.1 h)
        simp [hnb, q14, w2]
        refine ⟨l.length - (k + 1), by omega, k + 1, by omega, rfl, rfl, by simp [fr], ?_, by simp⟩
        rcases hm with ⟨m1, m2⟩ | ⟨k', m1, m2, m3⟩
        · refine .inl ⟨by simp [m1], fun k' hk' => ?_⟩
          by_cases e : k' = k
          · rw [e]; exact hb
          · exact m2 k' (by omega)
        · exact .inr ⟨k', by omega, m2, by simp [m3]⟩
    · have hb : ¬ Beg l s at_ k := fun h => g (by rw [← hay]; exact h.2.1)
      simp [s24_3, q0, q8, q10, q14, h3, addOff, hg, hcy, g, w2]
      refine ⟨l.length - (k + 1), by omega, k + 1, by omega, rfl, rfl, by simp [fr], ?_, by simp⟩
      rcases hm with ⟨m1, m2⟩ | ⟨k', m1, m2, m3⟩
      · refine .inl ⟨by simp [m1], fun k' hk' => ?_⟩
        by_cases e : k' = k
        · rw [e]; exact hb
        · exact m2 k' (by omega)
      · exact .inr ⟨k', by omega, m2, by simp [m3]⟩
  · have h5 : k = l.length := by omega
    subst h5
    simp [s24_3, q0, q14]
    refine hQ _ ⟨Nat.le_refl _, by omega, rfl, by simp [fr], ?_, by simp [q14]⟩
    rcases hm with ⟨m1, m2⟩ | ⟨k', m1, m2, m3⟩
    · exact .inl ⟨by simp [m1], m2⟩
    · exact .inr ⟨k', m1, m2, by simp [m3]⟩
theorem numB_zero (s : Bytes) (at_ : Nat) : ∀ n, numB s at_ n = 0 ↔ ∀ i, i < n → bitAt s (at_ + i) = 0
  | 0 => by simp [numB]
  | n + 1 => by
    have ih := numB_zero s at_ n
    have hp : 0 < 2 ^ n := Nat.pow_pos (by omega)
    simp only [numB]
    constructor
    · intro h i hi
      have h2 : bitAt s (at_ + n) * 2 ^ n = 0 := by omega
      have h1 : numB s at_ n = 0 := by omega
      rcases Nat.lt_or_ge i n with hin | hin
      · exact ih.1 h1 i hin
      · have : i = n := by omega
        subst this
        rcases Nat.mul_eq_zero.1 h2 with h | h <;> omega
    · intro h
      rw [ih.2 fun i hi => h i (by omega), h n (by omega)]; simp
structure OutI (HB : Heap) (x : Nat) (a : Option Addr) (c : Nat) (l : List Int) (s : Bytes) (n : Nat) (d : Nat) (e : Fe) (H : Heap) (i : Nat) : Prop where
  h1 : i ≤ n
  h2 : d = n - i
  r : ∃ t at_, decI l s i = some (t, at_) ∧ Is HB (e 10) ((bitsB s).drop at_) ∧ Acc 5 1 HB.next H.next H (e 11) i (bvs t)
  kp : Kp HB.next HB H
  e0 : e 0 = .slice a l.length c
  e2 : e 2 = .int .i64 n
  e8 : e 8 = .pointer (some ⟨x, 0, none⟩)
  e12 : e 12 = .int .i64 i
structure EndI (HH : Heap) (s : Bytes) (at_ : Nat) (v w : Value) (d : Nat) (e : Fe) (H : Heap) (i : Nat) : Prop where
  h1 : i ≤ 8 * s.length - at_
  h2 : d = 8 * s.length - at_ - i
  hH : H = HH
  z : ∀ j, j < i → bitAt s (at_ + j) = 0 ∧ j < 7
  e10 : e 10 = v
  e11 : e 11 = w
  e15 : e 15 = .int .i64 i
theorem rDecode_t (hl : Iv H a l) (hw : wholeB l = true) (hs : s.length ≤ 100000) (n : Nat) (hn : n ≤ 1048576) :
    Wf S 24 [.slice a l.length c, .string (ofL s), .int .i64 n] H fun v H' => Kp H.next H H' ∧
      match decF l s n with
      | some d => ∃ w, v = .tuple #[w, .bool true] ∧ Acc 5 1 H.next H'.next H' w d.length (bvs d)
      | none => v = .tuple #[.slice none 0 0, .bool false] := by
  have hr : rightB l = true := by simp only [wholeB, Bool.and_eq_true] at hw; exact hw.1
  have hlen := right_len hr
  have hall := right_all hr
  have hbl := bitsB_len s
  refine w24 rfl rfl _ _ _ ?_
  simp [s24]
  have hk1 : ∀ cs : List Value, Kp H.next H (H.push (.cells cs 95 true)) := fun cs => Kp.push (Nat.le_refl _)
  refine codesLoop_t (H0 := H) (a := a) (c := c) (a1 := .string (ofL s)) (a2 := .int .i64 n) hl hr ⟨by omega, by omega, hk1 _, by simp, ⟨_, get_last, rfl, by omega⟩, by simp, by simp, by simp, by simp, by simp⟩ ?_
  rintro e1 H1 ⟨_, _, hkp1, hlt1, hcd1, q0, q1, q2, q8, q9⟩
  have hsr : s.length ≤ roomMax := by unfold roomMax; omega
  have hs2 := fun K => s_s2b (S := S) (e := []) (H := H1) (K := K) (t := 5) hsr
  simp [q1, hs2]
  have hk2 : Kp H1.next H1 (H1.push (.cells (bvs s) 5 true)) := Kp.push (Nat.le_refl _)
  have hg2 : (H1.push (.cells (bvs s) 5 true)).get H1.next = .cells (bvs s) 5 true := get_last
  generalize H1.push (.cells (bvs s) 5 true) = H2 at *
  refine (Bits_t (c := capx) (fun _ => ⟨H1.next, rfl, hg2⟩) (by omega)).mono ?_
  rintro v H3 ⟨hk3, hA3⟩
  have hn1 := hk2.1
  have hn3 := hk3.1
  have hcd3 : CdS H3 H.next H3.next l l.length := hcd1.of hlt1 (fun k hk => (hk3.2 k (by omega)).trans (hk2.2 k hk)) (by omega)
  have hkp3 : Kp H.next H H3 := hkp1.trans ((hk2.mono hkp1.1).trans (hk3.mono (by have := hkp1.1; omega)))
  have hl3 : Iv H3 a l := hl.kp hkp3
  have his3 : Is H3 v (bitsB s) := by
    rcases hA3 with ⟨h0, h1, rfl⟩ | ⟨b, c', r1, r2, r3, r4, r5, r6⟩
    · exact .inl ⟨rfl, by simpa [ivs] using h1⟩
    · refine .inr ⟨b, 0, c', _, true, by rw [r3, hbl], ?_, r5, fun i y hy => by rw [Nat.zero_add]; exact ivs_get hy⟩
      rcases r4 with r4 | r4
      · exact .inl r4
      · right; rw [hbl]; omega
  refine l24_1 S (fun d e H' => ∃ i, OutI H3 H.next a c l s n d e H' i) n ⟨0, by omega, by omega, ⟨[], 0, rfl, by simpa using his3, by simpa [bvs] using Acc.nil⟩, Kp.refl _ _, by simp [q0], by simp [q2], by simp [q8], by simp⟩ ?_
  rintro d e H' ⟨i, hi, rfl, ⟨t, at_, hdec, his, hA⟩, hkp, e0, e2, e8, e12⟩
  obtain ⟨d1, d2, d3, d4⟩ := decI_inv hr i t at_ hdec
  have hl' := hl3.kp hkp
  have hcd := hcd3.of (by omega) (fun k hk => hkp.2 k hk) hkp.1
  by_cases h3 : i < n
  · have w2 : IntKind.i64.wrap ((i : Int) + 1) = (i : Int) + 1 := wi (by omega) (by omega)
    simp [s24_1, e2, e12, h3]
    refine metLoop_t (c := c) (v := e 10) hl' hw hcd (his.kp hkp) hs (by simp [e0]) (by simp [e8]) (by simp) (by simp) (by simp) ?_
    rintro e' ⟨_, _, _, ⟨f0, f2, f8, f10, f11, f12⟩, hm, _⟩
    simp at f0 f2 f8 f10 f11 f12
    rcases hm with ⟨m1, m2⟩ | ⟨k, hk, hb, m3⟩
    · have hmiss : ∀ k, ¬ Beg l s at_ k := fun k hb => m2 k hb.1 hb
      have hdn := decI_miss hdec hmiss
      obtain ⟨j, hj⟩ := Nat.exists_eq_add_of_le (show i + 1 ≤ n by omega)
      have hdm := decI_none hdn j
      rw [← hj] at hdm
      have hF0 : decF l s n = none := by unfold decF; rw [hdm]; rfl
      simp [m1, hF0, tup]
      exact hkp3.trans (hkp.mono hkp3.1)
    · obtain ⟨b1, b2, b3, b4⟩ := hb
      have hdn := decI_hit hr hdec ⟨b1, b2, b3, b4⟩
      have hku : IntKind.u8.wrap (k : Int) = ((UInt8.ofNat k).toNat : Int) := by
        have : (UInt8.ofNat k).toNat = k := by simp; omega
        rw [this, wu8 (by omega) (by omega)]
      obtain ⟨u, hu⟩ : ∃ u, u = UInt8.ofNat k := ⟨_, rfl⟩
      rw [← hu] at hdn hku
      have hnx := hkp.1
      obtain ⟨v2, H6, hap, hA6, hn6, hk6⟩ := hA.app (bytes := 1) (new := [bv u]) hkp.1 (Nat.le_refl _) rfl (by unfold roomMax; omega)
      have hkp6 : Kp H3.next H3 H6 := ⟨by omega, fun k hk => (hk6 k (by omega) (.inl hk)).trans (hkp.2 k hk)⟩
      obtain ⟨y, hy⟩ : ∃ y, l[k]? = some y := ⟨_, List.getElem?_eq_getElem b1⟩
      obtain ⟨bb, o, cs, rw, rfl, hg, hcs⟩ := (hl3.kp hkp6) (by omega)
      have hcy := hcs k y hy
      have hay := at0_of hy
      obtain ⟨z, hz⟩ : ∃ z : Nat, y = (z : Int) := ⟨y.toNat, by omega⟩
      have hzz : (at0 l k).toNat = z := by omega
      rw [hzz] at hdn b3
      obtain ⟨v3, hv3⟩ := his.cut2 (S := S) (m := z) (by rw [List.length_drop]; omega)
      obtain ⟨hi3, _⟩ := hv3 H3 his
      obtain ⟨_, hr6⟩ := hv3 H6 (his.kp hkp6)
      rw [List.drop_drop] at hi3
      subst hz
      unfold bv at hap
      have hkn : ¬ (k : Int) < 0 := by omega
      simp [m3, hkn]
      simp [m3, kFill, evPs, isTup, cellsL, wr, kRow, rd, hku, f11, hap, f0, e0, b1, addOff, hg, hcy, f10, hr6, f12, e12, w2]
      exact ⟨n - (i + 1), by omega, i + 1, by omega, rfl, ⟨t ++ [u], at_ + z, hdn, by simpa using hi3, by simpa [bvs, bv] using hA6⟩, hkp6, by simp [f0, e0], by simp [f2, e2], by simp [f8, e8], by simp⟩
  · have h5 : i = n := by omega
    subst h5
    simp [s24_1, e2, e12]
    have his' := his.kp hkp
    obtain ⟨va, vc, e10, hiv⟩ := his'.iv
    obtain ⟨L, hL⟩ : ∃ L, L = 8 * s.length - at_ := ⟨_, rfl⟩
    have hdl : ((bitsB s).drop at_).length = L := by rw [List.length_drop, hbl, hL]
    have hfd : decF l s i = if L ≤ 7 ∧ numB s at_ L = 0 then some t else none := by unfold decF; rw [hdec]; simp only [Option.bind_some, hL]
    have hkf : Kp H.next H H' := hkp3.trans (hkp.mono hkp3.1)
    rw [hdl] at e10
    refine l24_0 S (fun d e' H2 => ∃ j, EndI H' s at_ (.slice va L vc) (e 11) d e' H2 j) L ⟨0, by omega, by omega, rfl, by omega, by simp [e10], by simp, by simp⟩ ?_
    rintro d e' H2 ⟨j, hj, rfl, rfl, hz, q10, q11, q15⟩
    by_cases h4 : j < L
    · have w2 : IntKind.i64.wrap ((j : Int) + 1) = (j : Int) + 1 := wi (by omega) (by omega)
      obtain ⟨bb, o, cs, rw, rfl, hg, hcs⟩ := hiv (by rw [hdl]; omega)
      have hx : ((bitsB s).drop at_)[j]? = some ((bitAt s (at_ + j) : Nat) : Int) := by rw [List.getElem?_drop, bitsB_get s _ (by omega)]
      have hcx := hcs j _ hx
      by_cases g1 : bitAt s (at_ + j) = 0
      · rw [g1] at hcx
        by_cases g2 : j < 7
        · have g2' : ¬ (7 : Int) ≤ j := by omega
          simp [s24_0, q10, q11, q15, h4, addOff, hg, hcx, g2', w2]
          refine ⟨L - (j + 1), by omega, j + 1, by omega, by omega, rfl, fun q hq => ?_, by simp [q10], by simp [q11], by simp⟩
          by_cases e : q = j
          · rw [e]; exact ⟨g1, g2⟩
          · exact hz q (by omega)
        · have g2' : (7 : Int) ≤ j := by omega
          have hno : ¬ (L ≤ 7 ∧ numB s at_ L = 0) := by omega
          rw [if_neg hno] at hfd
          simp [s24_0, q10, q11, q15, h4, addOff, hg, hcx, g2', tup, hfd]
          exact hkf
      · have hno : ¬ (L ≤ 7 ∧ numB s at_ L = 0) := by
          rw [numB_zero]
          rintro ⟨_, h⟩
          exact g1 (h j h4)
        rw [if_neg hno] at hfd
        obtain ⟨B, hB⟩ : ∃ B, B = bitAt s (at_ + j) := ⟨_, rfl⟩
        rw [← hB] at hcx g1
        simp [s24_0, q10, q11, q15, h4, addOff, hg, hcx, g1, tup, hfd]
        exact hkf
    · have h5 : j = L := by omega
      subst h5
      have hyes : j ≤ 7 ∧ numB s at_ j = 0 := by
        refine ⟨?_, (numB_zero s at_ j).2 fun q hq => (hz q hq).1⟩
        rcases Nat.lt_or_ge 7 j with h | h
        · have := (hz 7 h).2; omega
        · exact h
      rw [if_pos hyes] at hfd
      simp [s24_0, q10, q11, q15, tup, hfd]
      refine ⟨hkf, ?_⟩
      rw [d1]
      rcases hA with h | ⟨b', c', r1, r2, r3⟩
      · exact .inl h
      · exact .inr ⟨b', c', by have := hkp3.1; omega, r2, r3⟩
end
end Go.Proofs.Ytlboioplemlneaa.K
