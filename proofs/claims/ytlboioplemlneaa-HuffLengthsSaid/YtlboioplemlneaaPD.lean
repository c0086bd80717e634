/- The library's stable sort, walked: two blocks swapped, a rotation, an insertion sort. -/
import Derived.Test.YtlboioplemlneaaPC
import Derived.Test.YtlboioplemlneaaPA
import Derived.Test.YtlboioplemlneaaKSrtSh
set_option maxRecDepth 100000
set_option maxHeartbeats 2000000
set_option linter.unusedVariables false
set_option linter.unusedSimpArgs false
set_option linter.unusedSectionVars false
namespace Go.Proofs.Ytlboioplemlneaa.K
open Go Go.Proofs
section
variable {lt : Nat → Nat → Bool} {good : Nat → Prop} {fc : Value} {b cc : Nat} {H0 H : Heap} {l : Array Nat}
/-- all but one block as it was -/
def Aside (b : Nat) (H0 H : Heap) : Prop := H.next = H0.next ∧ ∀ k, k ≠ b → H.get k = H0.get k
/-- a comparison by an order -/
structure SrtQ (lt : Nat → Nat → Bool) (good : Nat → Prop) (fc : Value) (b : Nat) (H0 : Heap) : Prop where
  ord : Ord lt
  cmp : ∀ H x y, Aside b H0 H → good x → good y → ∀ K : Kv, (∀ n : Int, decide (n < 0) = lt x y → K (.int .i64 n) H) → run S (.callv (.c fc) [.c (.int .i64 (x : Int)), .c (.int .i64 (y : Int))]) [] H K
/-- numbers at b -/
structure DQ (good : Nat → Prop) (b : Nat) (H0 : Heap) (H : Heap) (l : Array Nat) : Prop where
  g : H.get b = .cells (nts l.toList) 3 true
  aside : Aside b H0 H
  gd : ∀ k, k < l.size → good (ix l k)
  sz : l.size ≤ 1000000
theorem DQ.at (h : DQ good b H0 H l) {i : Nat} (hi : i < l.size) : (nts l.toList)[i]? = some (.int .i64 ((ix l i : Nat) : Int)) := nts_get (by rw [Array.getElem?_toList]; exact ix_get hi)
theorem swap_sets {l : Array Nat} {i j : Nat} (hi : i < l.size) (hj : j < l.size) : (l.swap i j hi hj).toList = (l.toList.set i (ix l j)).set j (ix l i) := by
  apply List.ext_getElem?
  intro k
  have a1 := ix_get hi
  have a2 := ix_get hj
  rw [Array.getElem?_eq_getElem hi] at a1
  rw [Array.getElem?_eq_getElem hj] at a2
  simp only [Option.some.injEq] at a1 a2
  rw [Array.getElem?_toList, Array.getElem?_swap, List.getElem?_set, List.length_set, List.getElem?_set, a1, a2, Array.getElem?_toList]
  by_cases k1 : j = k
  · rw [if_pos k1, if_pos k1, if_pos (by simpa using by omega)]
  · rw [if_neg k1, if_neg k1]
    by_cases k2 : i = k
    · rw [if_pos k2, if_pos k2, if_pos (by simpa using by omega)]
    · rw [if_neg k2, if_neg k2]
theorem DQ.sw (h : DQ good b H0 H l) {i j : Nat} (hi : i < l.size) (hj : j < l.size) : ∃ H1 H2, kSt H (.pointer (some ⟨b, i, none⟩)) (.int .i64 ((ix l j : Nat) : Int)) = some H1 ∧ kSt H1 (.pointer (some ⟨b, j, none⟩)) (.int .i64 ((ix l i : Nat) : Int)) = some H2 ∧ DQ good b H0 H2 (l.swap i j hi hj) := by
  have hlt := lt_cells h.g
  refine ⟨H.put b (.cells (nts (l.toList.set i (ix l j))) 3 true), H.put b (.cells (nts (l.swap i j hi hj).toList) 3 true), ?_, ?_, ?_⟩
  · simp only [kSt, h.g]
    rw [if_pos (by simp [oneC, nts_len]; omega), nts_set]
  · simp only [kSt, get_put_eq hlt]
    rw [if_pos (by simp [oneC, nts_len]; omega), nts_set, put_put, swap_sets]
  · refine ⟨get_put_eq hlt, ⟨by rw [next_put]; exact h.aside.1, fun k hk => (get_put_ne hk).trans (h.aside.2 k hk)⟩, fun k hk => ?_, by rw [Array.size_swap]; exact h.sz⟩
    rw [Array.size_swap] at hk
    rw [ix_swap]
    split
    · exact h.gd j hj
    · split
      · exact h.gd i hi
      · exact h.gd k hk
structure SwI (good : Nat → Prop) (b : Nat) (H0 : Heap) (l : Array Nat) (cc a c n : Nat) (d : Nat) (e : Fe) (H : Heap) (l' : Array Nat) (i : Nat) : Prop where
  h2 : d = n - i
  hi : i ≤ n
  q : DQ good b H0 H l'
  pr : PR l l' a (c + n)
  sw : SwR l l' a c i
  e0 : e 0 = .slice (some ⟨b, 0, none⟩) l.size cc
  e1 : e 1 = .int .i64 a
  e2 : e 2 = .int .i64 c
  e3 : e 3 = .int .i64 n
  e10 : e 10 = .int .i64 i
theorem swr_t {a c n : Nat} (hD : DQ good b H0 H l) (hac : a + n ≤ c) (hc : c + n ≤ l.size) :
    Wf S 146 [.slice (some ⟨b, 0, none⟩) l.size cc, .int .i64 a, .int .i64 c, .int .i64 n, fc] H fun _ H' => ∃ l', DQ good b H0 H' l' ∧ PR l l' a (c + n) ∧ SwR l l' a c n := by
  refine w146 rfl rfl _ _ _ _ _ ?_
  simp [s146]
  refine l146_0 S (fun d e H' => ∃ l' i, SwI good b H0 l cc a c n d e H' l' i) n ⟨l, 0, by omega, by omega, hD, PR.refl _ _ _, SwR.nil _ _ _, by simp, by simp, by simp, by simp, by simp⟩ ?_
  rintro d e H1 ⟨l1, i, rfl, hi, hq, hp, hsw, e0, e1, e2, e3, e10⟩
  have hsz := hp.size
  have hsm := hq.sz
  by_cases h : i < n
  · obtain ⟨x, hx⟩ : ∃ x, x = a + i := ⟨_, rfl⟩
    obtain ⟨y, hy⟩ : ∃ y, y = c + i := ⟨_, rfl⟩
    have w1 : IntKind.i64.wrap ((a : Int) + i) = (x : Int) := by rw [wi (by omega) (by omega)]; omega
    have w2 : IntKind.i64.wrap ((c : Int) + i) = (y : Int) := by rw [wi (by omega) (by omega)]; omega
    have w3 : IntKind.i64.wrap ((i : Int) + 1) = ((i + 1 : Nat) : Int) := by rw [wi (by omega) (by omega)]; omega
    have g1 := hq.at (i := x) (by omega)
    have g2 := hq.at (i := y) (by omega)
    have x1 : x < l.size := by omega
    have x2 : (x : Int) < l.size := by omega
    have y1 : y < l.size := by omega
    have y2 : (y : Int) < l.size := by omega
    obtain ⟨H2, H3, s1, s2, hq3⟩ := hq.sw (i := x) (j := y) (by omega) (by omega)
    simp [s146_0, e0, e1, e2, e3, e10, h, w1, w2, w3, x1, x2, y1, y2, addOff, hq.g, g1, g2, s1, s2]
    refine ⟨n - (i + 1), by omega, _, i + 1, rfl, by omega, hq3, hp.swap _ _ (by omega) (by omega) (by omega) (by omega), ?_, by simp [e0], by simp [e1], by simp [e2], by simp [e3], by simp⟩
    subst hx hy
    exact hsw.step (by omega) _ _
  · simp [s146_0, e3, e10, h]
    obtain rfl : i = n := by omega
    exact ⟨l1, hq, hp, hsw⟩
structure RoI (good : Nat → Prop) (b : Nat) (H0 : Heap) (l : Array Nat) (cc a m c : Nat) (fc : Value) (d : Nat) (e : Fe) (H : Heap) (l' : Array Nat) (i j : Nat) : Prop where
  h2 : d = i + j
  hi : i ≤ m - a ∧ 0 < i
  hj : j ≤ c - m ∧ 0 < j
  q : DQ good b H0 H l'
  pr : PR l l' a c
  sw : ∀ l2, Rot l' l2 (m - i) m (m + j) → Rot l l2 a m c
  e0 : e 0 = .slice (some ⟨b, 0, none⟩) l.size cc
  e2 : e 2 = .int .i64 m
  e4 : e 4 = fc
  e10 : e 10 = .int .i64 i
  e11 : e 11 = .int .i64 j
theorem rot_t {a m c : Nat} (hD : DQ good b H0 H l) (ham : a < m) (hmc : m < c) (hc : c ≤ l.size) :
    Wf S 145 [.slice (some ⟨b, 0, none⟩) l.size cc, .int .i64 a, .int .i64 m, .int .i64 c, fc] H fun _ H' => ∃ l', DQ good b H0 H' l' ∧ PR l l' a c ∧ Rot l l' a m c := by
  have hsm0 := hD.sz
  have w1 : IntKind.i64.wrap ((m : Int) - a) = ((m - a : Nat) : Int) := by rw [wi (by omega) (by omega)]; omega
  have w2 : IntKind.i64.wrap ((c : Int) - m) = ((c - m : Nat) : Int) := by rw [wi (by omega) (by omega)]; omega
  refine w145 rfl rfl _ _ _ _ _ ?_
  simp [s145, w1, w2]
  refine l145_0 S (fun d e H' => ∃ l' i j, RoI good b H0 l cc a m c fc d e H' l' i j) (m - a + (c - m)) ⟨l, m - a, c - m, rfl, by omega, by omega, hD, PR.refl _ _ _, fun l2 h => ?_, by simp, by simp, by simp, by simp, by simp⟩ ?_
  · rw [show m - (m - a) = a by omega, show m + (c - m) = c by omega] at h; exact h
  rintro d e H1 ⟨l1, i, j, rfl, hi, hj, hq, hp, hro, e0, e2, e4, e10, e11⟩
  have hsz := hp.size
  have hsm := hq.sz
  obtain ⟨x, hx⟩ : ∃ x, x = m - i := ⟨_, rfl⟩
  have w3 : IntKind.i64.wrap ((m : Int) - i) = (x : Int) := by rw [wi (by omega) (by omega)]; omega
  by_cases h : i = j
  · subst h
    simp [s145_0, e0, e2, e4, e10, e11, w3]
    have hs := swr_t (cc := cc) (fc := fc) hq (a := x) (c := m) (n := i) (by omega) (by omega)
    rw [hsz] at hs
    refine hs.mono ?_
    rintro v H2 ⟨l2, q2, p2, s2⟩
    try simp
    subst hx
    exact ⟨l2, q2, hp.trans (p2.mono (by omega) (by omega)), hro _ (Rot.last (by omega) s2)⟩
  · by_cases h' : j < i
    · have hij : ¬ (i : Int) = j := by omega
      have h2 : (j : Int) < i := by omega
      have w4 : IntKind.i64.wrap ((i : Int) - j) = ((i - j : Nat) : Int) := by rw [wi (by omega) (by omega)]; omega
      simp [s145_0, e0, e2, e4, e10, e11, w3, h, hij, h', h2]
      have hs := swr_t (cc := cc) (fc := fc) hq (a := x) (c := m) (n := j) (by omega) (by omega)
      rw [hsz] at hs
      refine hs.mono ?_
      rintro v H2 ⟨l2, q2, p2, s2⟩
      simp [e10, e11, w4]
      subst hx
      exact ⟨i - j + j, by omega, l2, i - j, j, rfl, by omega, by omega, q2, hp.trans (p2.mono (by omega) (by omega)), fun l3 h3 => hro _ (Rot.big h' (by omega) s2 h3), by simp [e0], by simp [e2], by simp [e4], by simp, by simp [e11]⟩
    · have hij : ¬ (i : Int) = j := by omega
      have h2 : ¬ (j : Int) < i := by omega
      obtain ⟨y, hy⟩ : ∃ y, y = m + j := ⟨_, rfl⟩
      obtain ⟨z, hz⟩ : ∃ z, z = m + j - i := ⟨_, rfl⟩
      have w4 : IntKind.i64.wrap ((j : Int) - i) = ((j - i : Nat) : Int) := by rw [wi (by omega) (by omega)]; omega
      have w5 : IntKind.i64.wrap ((m : Int) + j) = (y : Int) := by rw [wi (by omega) (by omega)]; omega
      have w6 : IntKind.i64.wrap ((y : Int) - i) = (z : Int) := by rw [wi (by omega) (by omega)]; omega
      simp [s145_0, e0, e2, e4, e10, e11, w3, w5, w6, h, hij, h', h2]
      have hs := swr_t (cc := cc) (fc := fc) hq (a := x) (c := z) (n := i) (by omega) (by omega)
      rw [hsz] at hs
      refine hs.mono ?_
      rintro v H2 ⟨l2, q2, p2, s2⟩
      simp [e10, e11, w4]
      subst hx hz
      exact ⟨i + (j - i), by omega, l2, i, j - i, rfl, by omega, by omega, q2, hp.trans (p2.mono (by omega) (by omega)), fun l3 h3 => hro _ (Rot.small (by omega) (by omega) s2 h3), by simp [e0], by simp [e2], by simp [e4], by simp [e10], by simp⟩
structure InI2 (lt : Nat → Nat → Bool) (good : Nat → Prop) (b : Nat) (H0 : Heap) (l : Array Nat) (cc a n i : Nat) (fc : Value) (d : Nat) (e : Fe) (H : Heap) (l' : Array Nat) : Prop where
  hd : a ≤ d ∧ d ≤ i
  hn : i < n
  q : DQ good b H0 H l'
  pr : PR l l' a n
  ins : InsI lt l' a i d
  e0 : e 0 = .slice (some ⟨b, 0, none⟩) l.size cc
  e1 : e 1 = .int .i64 a
  e2 : e 2 = .int .i64 n
  e3 : e 3 = fc
  e8 : e 8 = .int .i64 i
  e9 : e 9 = .int .i64 d
theorem insIn_t {e : Fe} {Q : Kx} {a n i : Nat} (hs : SrtQ lt good fc b H0) (hn : n ≤ l.size) (h : InI2 lt good b H0 l cc a n i fc i e H l)
    (hQ : ∀ e H l', DQ good b H0 H l' → PR l l' a n → Srt lt l' a (i + 1) → (e 0 = .slice (some ⟨b, 0, none⟩) l.size cc ∧ e 1 = .int .i64 a ∧ e 2 = .int .i64 n ∧ e 3 = fc ∧ e 8 = .int .i64 i) → Q (.exit 2) e H) :
    WL S b143_1 e H Q := by
  refine l143_1 S (fun d e H' => ∃ l', InI2 lt good b H0 l cc a n i fc d e H' l') i ⟨l, h⟩ ?_
  rintro d e H1 ⟨l1, hd, hin, hq, hp, hi, e0, e1, e2, e3, e8, e9⟩
  have hsz := hp.size
  have hsm := hq.sz
  by_cases h1 : a < d
  · obtain ⟨m, hm⟩ : ∃ m, m = d - 1 := ⟨_, rfl⟩
    have h1' : (a : Int) < d := by omega
    have w1 : IntKind.i64.wrap ((d : Int) - 1) = (m : Int) := by rw [wi (by omega) (by omega)]; omega
    have g1 := hq.at (i := d) (by omega)
    have g2 := hq.at (i := m) (by omega)
    have x1 : d < l.size := by omega
    have x2 : (d : Int) < l.size := by omega
    have y1 : m < l.size := by omega
    have y2 : (m : Int) < l.size := by omega
    obtain ⟨H2, H3, s1, s2, hq3⟩ := hq.sw (i := d) (j := m) (by omega) (by omega)
    simp [s143_1, e0, e1, e3, e9, h1, w1, x1, x2, y1, y2, addOff, hq.g, g1, g2]
    refine hs.cmp H1 _ _ hq.aside (hq.gd d (by omega)) (hq.gd m (by omega)) _ fun r hr => ?_
    cases hb : lt (ix l1 d) (ix l1 m) with
    | true =>
      have hr : r < 0 := by simpa [hb] using hr
      simp [hr, e0, e9, w1, x1, x2, y1, y2, addOff, hq.g, g1, g2, s1, s2]
      subst hm
      exact ⟨d - 1, by omega, _, by omega, hin, hq3, hp.swap _ _ (by omega) (by omega) (by omega) (by omega), hi.step hs.ord h1 hd.2 hb _ _, by simp [e0], by simp [e1], by simp [e2], by simp [e3], by simp [e8], by simp⟩
    | false =>
      have hr : ¬ r < 0 := by simpa [hb] using hr
      simp [hr]
      subst hm
      exact hQ _ _ l1 hq hp (hi.stop hs.ord h1 hd.2 hb) (by simp [e0, e1, e2, e3, e8])
  · obtain rfl : d = a := by omega
    simp [s143_1, e1, e9]
    exact hQ _ _ l1 hq hp hi.top (by simp [e0, e1, e2, e3, e8])
structure InO (lt : Nat → Nat → Bool) (good : Nat → Prop) (b : Nat) (H0 : Heap) (l : Array Nat) (cc a n : Nat) (fc : Value) (d : Nat) (e : Fe) (H : Heap) (l' : Array Nat) (i : Nat) : Prop where
  hd : d = n - i
  hi : a < i
  hn : i ≤ n ∨ i = a + 1
  q : DQ good b H0 H l'
  pr : PR l l' a n
  so : Srt lt l' a i
  e0 : e 0 = .slice (some ⟨b, 0, none⟩) l.size cc
  e1 : e 1 = .int .i64 a
  e2 : e 2 = .int .i64 n
  e3 : e 3 = fc
  e8 : e 8 = .int .i64 i
theorem ins_t {a n : Nat} (hs : SrtQ lt good fc b H0) (hD : DQ good b H0 H l) (han : a ≤ n) (hn : n ≤ l.size) :
    Wf S 143 [.slice (some ⟨b, 0, none⟩) l.size cc, .int .i64 a, .int .i64 n, fc] H fun _ H' => ∃ l', DQ good b H0 H' l' ∧ PR l l' a n ∧ Srt lt l' a n := by
  have hsm0 := hD.sz
  have w1 : IntKind.i64.wrap ((a : Int) + 1) = ((a + 1 : Nat) : Int) := by rw [wi (by omega) (by omega)]; omega
  refine w143 rfl rfl _ _ _ _ ?_
  simp [s143, w1]
  refine l143_0 S (fun d e H' => ∃ l' i, InO lt good b H0 l cc a n fc d e H' l' i) (n - (a + 1)) ⟨l, a + 1, rfl, by omega, .inr rfl, hD, PR.refl _ _ _, Srt.small (by omega), by simp, by simp, by simp, by simp, by simp⟩ ?_
  rintro d e H1 ⟨l1, i, rfl, hi, hin, hq, hp, hso, e0, e1, e2, e3, e8⟩
  have hsz := hp.size
  have hsm := hq.sz
  by_cases h : i < n
  · have h' : (i : Int) < n := by omega
    have w2 : IntKind.i64.wrap ((i : Int) + 1) = ((i + 1 : Nat) : Int) := by rw [wi (by omega) (by omega)]; omega
    simp [s143_0, e2, e8, h, h']
    refine insIn_t (l := l1) (a := a) (n := n) (i := i) (cc := cc) hs (by omega) ⟨by omega, h, hq, PR.refl _ _ _, InsI.start hso, by simp [e0, hsz], by simp [e1], by simp [e2], by simp [e3], by simp [e8], by simp [e8]⟩ ?_
    rintro e' H2 l2 q2 p2 so2 ⟨f0, f1, f2, f3, f8⟩
    simp [f8, w2]
    exact ⟨n - (i + 1), by omega, l2, i + 1, rfl, by omega, .inl (by omega), q2, hp.trans p2, so2, by simp [f0, hsz], by simp [f1], by simp [f2], by simp [f3], by simp⟩
  · have h' : ¬ (i : Int) < n := by omega
    simp [s143_0, e2, e8, h, h']
    exact ⟨l1, hq, hp, hso.sub (Nat.le_refl _) (by omega)⟩
end
end Go.Proofs.Ytlboioplemlneaa.K
/- The library's stable sort, walked: two sorted runs that are merged. (Printed by psortb.py of this work.) -/
set_option maxRecDepth 100000
set_option maxHeartbeats 4000000
set_option linter.unusedVariables false
set_option linter.unusedSimpArgs false
set_option linter.unusedSectionVars false
namespace Go.Proofs.Ytlboioplemlneaa.K
open Go Go.Proofs
theorem half_u {x : Nat} : kBin .shr (.int .u64 (x : Int)) (.int .u64 1) = some (.int .u64 ((x / 2 : Nat) : Int)) := by
  have h : ((x : Int)).fdiv 2 = ((x / 2 : Nat) : Int) := by rw [Int.fdiv_eq_ediv_of_nonneg _ (by omega)]; omega
  have e : min (1 : Int).toNat IntKind.u64.bits = 1 := by decide
  simp only [kBin, e]
  rw [if_neg (by omega)]
  simp [h]
theorem wu64q {x : Nat} (h : x < 4611686018427387904) : IntKind.u64.wrap (x : Int) = (x : Int) := by
  have : IntKind.u64.wrap (x : Int) = (x : Int) % 18446744073709551616 := by simp [IntKind.wrap, IntKind.signed, IntKind.bits]
  rw [this]; omega
section
variable {lt : Nat → Nat → Bool} {good : Nat → Prop} {fc : Value} {b cc : Nat} {H0 H : Heap} {l : Array Nat}
/-- the arguments of a merge -/
structure A5 (b n cc a m c : Nat) (fc : Value) (e : Fe) : Prop where
  e0 : e 0 = .slice (some ⟨b, 0, none⟩) n cc
  e1 : e 1 = .int .i64 a
  e2 : e 2 = .int .i64 m
  e3 : e 3 = .int .i64 c
  e4 : e 4 = fc
theorem merged {l1 l2 l3 : Array Nat} {a mid c : Nat} (hd : Ahd lt l1 a mid mid c) (p2 : PR l1 l2 a mid) (s2 : Srt lt l2 a mid) (p3 : PR l2 l3 mid c) (s3 : Srt lt l3 mid c) : Srt lt l3 a c := by
  refine (s2.same fun k k1 k2 => p3.out k (by omega)).join s3 ?_
  refine (hd.pr (fun k k1 k2 => ?_) (fun k k1 k2 => ?_))
  · rw [p3.out k (by omega)]; exact p2.inn k k1 k2
  · obtain ⟨j, j1, j2, e⟩ := p3.inn k k1 k2
    exact ⟨j, j1, j2, by rw [e, p2.out j (by omega)]⟩
structure SAI (lt : Nat → Nat → Bool) (l : Array Nat) (b cc a m c p s0 r0 : Nat) (fc : Value) (H1 : Heap) (d : Nat) (e : Fe) (H : Heap) (i j : Nat) : Prop where
  hd : d = j - i
  hH : H = H1
  bs : BS (fun k => !lt (ix l k) (ix l a)) s0 r0 i j
  h5 : A5 b l.size cc a m c fc e
  i0 : e 10 = .int .i64 i
  j0 : e 11 = .int .i64 j
theorem SA_t {e : Fe} {Q : Kx} {a m c p s0 r0 : Nat} (hs : SrtQ lt good fc b H0) (hD : DQ good b H0 H l) (ha : a < l.size) (hr0 : r0 ≤ l.size) (hm : Mono (fun k => !lt (ix l k) (ix l a)) s0 r0) (hsr : s0 ≤ r0)
    (h5 : A5 b l.size cc a m c fc e) (i0 : e 10 = .int .i64 s0) (j0 : e 11 = .int .i64 r0)
    (hQ : ∀ e i, BS (fun k => !lt (ix l k) (ix l a)) s0 r0 i i → A5 b l.size cc a m c fc e → e 10 = .int .i64 i → Q (.exit 0) e H) : WL S b144_4 e H Q := by
  have hsm := hD.sz
  refine l144_4 S (fun d e H' => ∃ i j, SAI lt l b cc a m c p s0 r0 fc H d e H' i j) (r0 - s0) ⟨s0, r0, rfl, rfl, BS.start hsr, h5, i0, j0⟩ ?_
  rintro d e H1 ⟨i, j, rfl, rfl, hb, h5, i0, j0⟩
  obtain ⟨e0, e1, e2, e3, e4⟩ := h5
  have h5 : A5 b l.size cc a m c fc e := ⟨e0, e1, e2, e3, e4⟩
  have := hb.a; have := hb.b; have := hb.c
  by_cases h : i < j
  · have h' : (i : Int) < j := by omega
    obtain ⟨x, hx⟩ : ∃ x, x = i + j := ⟨_, rfl⟩
    obtain ⟨k, hk⟩ : ∃ k, k = x / 2 := ⟨_, rfl⟩
    have w1 : IntKind.i64.wrap ((i : Int) + j) = (x : Int) := by rw [wi (by omega) (by omega)]; omega
    have w2 : IntKind.u64.wrap (x : Int) = (x : Int) := wu64q (by omega)
    have w3 := half_u (x := x)
    rw [← hk] at w3
    have w4 : IntKind.i64.wrap (k : Int) = (k : Int) := wi (by omega) (by omega)
    have w5 : IntKind.i64.wrap ((k : Int) + 1) = ((k + 1 : Nat) : Int) := by rw [wi (by omega) (by omega)]; omega

    have g1 := hD.at (i := k) (by omega)
    have g2 := hD.at (i := a) (by omega)
    have x1 : k < l.size := by omega
    have x2 : (k : Int) < l.size := by omega
    have y1 : a < l.size := by omega
    have y2 : (a : Int) < l.size := by omega
    simp [s144_4, e0, e1, e2, e3, e4, i0, j0, h, h', w1, w2, w3, w4, x1, x2, y1, y2, addOff, hD.g, g1, g2]
    refine hs.cmp _ _ _ hD.aside (hD.gd _ (by omega)) (hD.gd _ (by omega)) _ fun r hr => ?_
    cases hc : lt (ix l k) (ix l a) with
    | true =>
      have hr : r < 0 := by simpa [hc] using hr
      simp [hr, w5]
      exact ⟨j - (k + 1), by omega, k + 1, j, rfl, rfl, hb.no hm (by omega) (by omega) (by first | (simp only [hc]; done) | (simp [hc]; done) | (subst_vars; simpa using hc)), ⟨by simp [h5.e0], by simp [h5.e1], by simp [h5.e2], by simp [h5.e3], by simp [h5.e4]⟩, by simp, by simp [j0]⟩
    | false =>
      have hr : ¬ r < 0 := by simpa [hc] using hr
      simp [hr, w5]
      exact ⟨k - i, by omega, i, k, rfl, rfl, hb.yes hm (by omega) (by omega) (by first | (simp only [hc]; done) | (simp [hc]; done) | (subst_vars; simpa using hc)), ⟨by simp [h5.e0], by simp [h5.e1], by simp [h5.e2], by simp [h5.e3], by simp [h5.e4]⟩, by simp [i0], by simp⟩
  · have h' : ¬ (i : Int) < j := by omega
    obtain rfl : i = j := by omega
    simp [s144_4, i0, j0]
    exact hQ _ i hb ⟨by simp [h5.e0], by simp [h5.e1], by simp [h5.e2], by simp [h5.e3], by simp [h5.e4]⟩ (by simp [i0])
structure SBI (lt : Nat → Nat → Bool) (l : Array Nat) (b cc a m c p s0 r0 : Nat) (fc : Value) (H1 : Heap) (d : Nat) (e : Fe) (H : Heap) (i j : Nat) : Prop where
  hd : d = j - i
  hH : H = H1
  bs : BS (fun k => lt (ix l m) (ix l k)) s0 r0 i j
  h5 : A5 b l.size cc a m c fc e
  i0 : e 14 = .int .i64 i
  j0 : e 15 = .int .i64 j
theorem SB_t {e : Fe} {Q : Kx} {a m c p s0 r0 : Nat} (hs : SrtQ lt good fc b H0) (hD : DQ good b H0 H l) (ha : m < l.size) (hr0 : r0 ≤ l.size) (hm : Mono (fun k => lt (ix l m) (ix l k)) s0 r0) (hsr : s0 ≤ r0)
    (h5 : A5 b l.size cc a m c fc e) (i0 : e 14 = .int .i64 s0) (j0 : e 15 = .int .i64 r0)
    (hQ : ∀ e i, BS (fun k => lt (ix l m) (ix l k)) s0 r0 i i → A5 b l.size cc a m c fc e → e 14 = .int .i64 i → Q (.exit 4) e H) : WL S b144_2 e H Q := by
  have hsm := hD.sz
  refine l144_2 S (fun d e H' => ∃ i j, SBI lt l b cc a m c p s0 r0 fc H d e H' i j) (r0 - s0) ⟨s0, r0, rfl, rfl, BS.start hsr, h5, i0, j0⟩ ?_
  rintro d e H1 ⟨i, j, rfl, rfl, hb, h5, i0, j0⟩
  obtain ⟨e0, e1, e2, e3, e4⟩ := h5
  have h5 : A5 b l.size cc a m c fc e := ⟨e0, e1, e2, e3, e4⟩
  have := hb.a; have := hb.b; have := hb.c
  by_cases h : i < j
  · have h' : (i : Int) < j := by omega
    obtain ⟨x, hx⟩ : ∃ x, x = i + j := ⟨_, rfl⟩
    obtain ⟨k, hk⟩ : ∃ k, k = x / 2 := ⟨_, rfl⟩
    have w1 : IntKind.i64.wrap ((i : Int) + j) = (x : Int) := by rw [wi (by omega) (by omega)]; omega
    have w2 : IntKind.u64.wrap (x : Int) = (x : Int) := wu64q (by omega)
    have w3 := half_u (x := x)
    rw [← hk] at w3
    have w4 : IntKind.i64.wrap (k : Int) = (k : Int) := wi (by omega) (by omega)
    have w5 : IntKind.i64.wrap ((k : Int) + 1) = ((k + 1 : Nat) : Int) := by rw [wi (by omega) (by omega)]; omega

    have g1 := hD.at (i := m) (by omega)
    have g2 := hD.at (i := k) (by omega)
    have x1 : m < l.size := by omega
    have x2 : (m : Int) < l.size := by omega
    have y1 : k < l.size := by omega
    have y2 : (k : Int) < l.size := by omega
    simp [s144_2, e0, e1, e2, e3, e4, i0, j0, h, h', w1, w2, w3, w4, x1, x2, y1, y2, addOff, hD.g, g1, g2]
    refine hs.cmp _ _ _ hD.aside (hD.gd _ (by omega)) (hD.gd _ (by omega)) _ fun r hr => ?_
    cases hc : lt (ix l m) (ix l k) with
    | true =>
      have hr : r < 0 := by simpa [hc] using hr
      simp [hr, w5]
      exact ⟨k - i, by omega, i, k, rfl, rfl, hb.yes hm (by omega) (by omega) (by first | (simp only [hc]; done) | (simp [hc]; done) | (subst_vars; simpa using hc)), ⟨by simp [h5.e0], by simp [h5.e1], by simp [h5.e2], by simp [h5.e3], by simp [h5.e4]⟩, by simp [i0], by simp⟩
    | false =>
      have hr : ¬ r < 0 := by simpa [hc] using hr
      simp [hr, w5]
      exact ⟨j - (k + 1), by omega, k + 1, j, rfl, rfl, hb.no hm (by omega) (by omega) (by first | (simp only [hc]; done) | (simp [hc]; done) | (subst_vars; simpa using hc)), ⟨by simp [h5.e0], by simp [h5.e1], by simp [h5.e2], by simp [h5.e3], by simp [h5.e4]⟩, by simp, by simp [j0]⟩
  · have h' : ¬ (i : Int) < j := by omega
    obtain rfl : i = j := by omega
    simp [s144_2, i0, j0]
    exact hQ _ i hb ⟨by simp [h5.e0], by simp [h5.e1], by simp [h5.e2], by simp [h5.e3], by simp [h5.e4]⟩ (by simp [i0])
structure SCI (lt : Nat → Nat → Bool) (l : Array Nat) (b cc a m c p s0 r0 mid n : Nat) (fc : Value) (H1 : Heap) (d : Nat) (e : Fe) (H : Heap) (i j : Nat) : Prop where
  hd : d = j - i
  hH : H = H1
  bs : BS (fun k => lt (ix l (p - k)) (ix l k)) s0 r0 i j
  h5 : A5 b l.size cc a m c fc e
  i0 : e 20 = .int .i64 i
  j0 : e 21 = .int .i64 j
  x22 : e 22 = .int .i64 p
  x18 : e 18 = .int .i64 mid
  x19 : e 19 = .int .i64 n
theorem SC_t {e : Fe} {Q : Kx} {a m c p s0 r0 : Nat} (hs : SrtQ lt good fc b H0) (hD : DQ good b H0 H l) (ha : p < l.size + s0) (hp1 : p < 2000000) (hp : r0 ≤ p + 1) (hr0 : r0 ≤ l.size) (mid n : Nat) (hm : Mono (fun k => lt (ix l (p - k)) (ix l k)) s0 r0) (hsr : s0 ≤ r0)
    (h5 : A5 b l.size cc a m c fc e) (i0 : e 20 = .int .i64 s0) (j0 : e 21 = .int .i64 r0) (x22 : e 22 = .int .i64 p) (x18 : e 18 = .int .i64 mid) (x19 : e 19 = .int .i64 n)
    (hQ : ∀ e i, BS (fun k => lt (ix l (p - k)) (ix l k)) s0 r0 i i → A5 b l.size cc a m c fc e → e 20 = .int .i64 i ∧ e 22 = .int .i64 p ∧ e 18 = .int .i64 mid ∧ e 19 = .int .i64 n → Q (.exit 8) e H) : WL S b144_0 e H Q := by
  have hsm := hD.sz
  refine l144_0 S (fun d e H' => ∃ i j, SCI lt l b cc a m c p s0 r0 mid n fc H d e H' i j) (r0 - s0) ⟨s0, r0, rfl, rfl, BS.start hsr, h5, i0, j0, x22, x18, x19⟩ ?_
  rintro d e H1 ⟨i, j, rfl, rfl, hb, h5, i0, j0, x22, x18, x19⟩
  obtain ⟨e0, e1, e2, e3, e4⟩ := h5
  have h5 : A5 b l.size cc a m c fc e := ⟨e0, e1, e2, e3, e4⟩
  have := hb.a; have := hb.b; have := hb.c
  by_cases h : i < j
  · have h' : (i : Int) < j := by omega
    obtain ⟨x, hx⟩ : ∃ x, x = i + j := ⟨_, rfl⟩
    obtain ⟨k, hk⟩ : ∃ k, k = x / 2 := ⟨_, rfl⟩
    have w1 : IntKind.i64.wrap ((i : Int) + j) = (x : Int) := by rw [wi (by omega) (by omega)]; omega
    have w2 : IntKind.u64.wrap (x : Int) = (x : Int) := wu64q (by omega)
    have w3 := half_u (x := x)
    rw [← hk] at w3
    have w4 : IntKind.i64.wrap (k : Int) = (k : Int) := wi (by omega) (by omega)
    have w5 : IntKind.i64.wrap ((k : Int) + 1) = ((k + 1 : Nat) : Int) := by rw [wi (by omega) (by omega)]; omega
    obtain ⟨q, hq⟩ : ∃ q, q = p - k := ⟨_, rfl⟩
    have w6 : IntKind.i64.wrap ((p : Int) - k) = (q : Int) := by rw [wi (by omega) (by omega)]; omega
    have g1 := hD.at (i := q) (by omega)
    have g2 := hD.at (i := k) (by omega)
    have x1 : q < l.size := by omega
    have x2 : (q : Int) < l.size := by omega
    have y1 : k < l.size := by omega
    have y2 : (k : Int) < l.size := by omega
    simp [s144_0, e0, e1, e2, e3, e4, i0, j0, x22, x18, x19, h, h', w1, w2, w3, w4, w6, x1, x2, y1, y2, addOff, hD.g, g1, g2]
    refine hs.cmp _ _ _ hD.aside (hD.gd _ (by omega)) (hD.gd _ (by omega)) _ fun r hr => ?_
    cases hc : lt (ix l q) (ix l k) with
    | true =>
      have hr : r < 0 := by simpa [hc] using hr
      simp [hr, w5]
      exact ⟨k - i, by omega, i, k, rfl, rfl, hb.yes hm (by omega) (by omega) (by first | (simp only [hc]; done) | (simp [hc]; done) | (subst_vars; simpa using hc)), ⟨by simp [h5.e0], by simp [h5.e1], by simp [h5.e2], by simp [h5.e3], by simp [h5.e4]⟩, by simp [i0], by simp, by simp [x22], by simp [x18], by simp [x19]⟩
    | false =>
      have hr : ¬ r < 0 := by simpa [hc] using hr
      simp [hr, w5]
      exact ⟨j - (k + 1), by omega, k + 1, j, rfl, rfl, hb.no hm (by omega) (by omega) (by first | (simp only [hc]; done) | (simp [hc]; done) | (subst_vars; simpa using hc)), ⟨by simp [h5.e0], by simp [h5.e1], by simp [h5.e2], by simp [h5.e3], by simp [h5.e4]⟩, by simp, by simp [j0], by simp [x22], by simp [x18], by simp [x19]⟩
  · have h' : ¬ (i : Int) < j := by omega
    obtain rfl : i = j := by omega
    simp [s144_0, i0, j0]
    exact hQ _ i hb ⟨by simp [h5.e0], by simp [h5.e1], by simp [h5.e2], by simp [h5.e3], by simp [h5.e4]⟩ ⟨by simp [i0], by simp [x22], by simp [x18], by simp [x19]⟩
/-- the first one goes up -/
structure UpM (good : Nat → Prop) (b : Nat) (H0 : Heap) (l : Array Nat) (cc a m c i : Nat) (fc : Value) (d : Nat) (e : Fe) (H : Heap) (l' : Array Nat) (k : Nat) : Prop where
  hd : d = i - k
  hk : a ≤ k ∧ k + 1 ≤ i
  q : DQ good b H0 H l'
  pr : PR l l' a i
  ro : Rot l l' a (a + 1) (k + 1)
  h5 : A5 b l.size cc a m c fc e
  i0 : e 10 = .int .i64 i
  k0 : e 13 = .int .i64 k
theorem upM_t {e : Fe} {Q : Kx} {a m c i : Nat} (hD : DQ good b H0 H l) (hai : a < i) (hi : i ≤ l.size) (h5 : A5 b l.size cc a m c fc e) (i0 : e 10 = .int .i64 i) (k0 : e 13 = .int .i64 a)
    (hQ : ∀ e H l', DQ good b H0 H l' → PR l l' a i → Rot l l' a (a + 1) i → Q (.exit 2) e H) : WL S b144_3 e H Q := by
  refine l144_3 S (fun d e H' => ∃ l' k, UpM good b H0 l cc a m c i fc d e H' l' k) (i - a) ⟨l, a, rfl, by omega, hD, PR.refl _ _ _, Rot.nil (by omega) (by omega) (.inr rfl), h5, i0, k0⟩ ?_
  rintro d e H1 ⟨l1, k, rfl, hk, hq, hp, hro, h5, i0, k0⟩
  obtain ⟨e0, e1, e2, e3, e4⟩ := h5
  have hsz := hp.size
  have hsm := hq.sz
  have w1 : IntKind.i64.wrap ((i : Int) - 1) = ((i - 1 : Nat) : Int) := by rw [wi (by omega) (by omega)]; omega
  obtain ⟨i', hi'⟩ : ∃ i', i' = i - 1 := ⟨_, rfl⟩
  rw [← hi'] at w1
  by_cases h : k < i'
  · have h' : (k : Int) < i' := by omega
    obtain ⟨k', hk'⟩ : ∃ k', k' = k + 1 := ⟨_, rfl⟩
    have w2 : IntKind.i64.wrap ((k : Int) + 1) = (k' : Int) := by rw [wi (by omega) (by omega)]; omega
    have g1 := hq.at (i := k) (by omega)
    have g2 := hq.at (i := k') (by omega)
    have x1 : k < l.size := by omega
    have x2 : (k : Int) < l.size := by omega
    have y1 : k' < l.size := by omega
    have y2 : (k' : Int) < l.size := by omega
    obtain ⟨H2, H3, s1, s2, hq3⟩ := hq.sw (i := k) (j := k') (by omega) (by omega)
    simp [s144_3, e0, i0, k0, w1, w2, h, h', x1, x2, y1, y2, addOff, hq.g, g1, g2, s1, s2]
    subst hk'
    exact ⟨i - (k + 1), by omega, _, k + 1, rfl, by omega, hq3, hp.swap _ _ (by omega) (by omega) (by omega) (by omega), hro.up (by omega) _ _, ⟨by simp [e0], by simp [e1], by simp [e2], by simp [e3], by simp [e4]⟩, by simp [i0], by simp⟩
  · have h' : ¬ (k : Int) < i' := by omega
    simp [s144_3, e0, i0, k0, w1, h, h']
    obtain rfl : i = k + 1 := by omega
    exact hQ _ _ l1 hq hp hro
/-- the last one comes down -/
structure DnM (good : Nat → Prop) (b : Nat) (H0 : Heap) (l : Array Nat) (cc a m c i : Nat) (fc : Value) (d : Nat) (e : Fe) (H : Heap) (l' : Array Nat) (k : Nat) : Prop where
  hd : d = k
  hk : i ≤ k ∧ k ≤ m
  q : DQ good b H0 H l'
  pr : PR l l' i (m + 1)
  ro : Rot l l' k m (m + 1)
  h5 : A5 b l.size cc a m c fc e
  i0 : e 14 = .int .i64 i
  k0 : e 17 = .int .i64 k
theorem dnM_t {e : Fe} {Q : Kx} {a m c i : Nat} (hD : DQ good b H0 H l) (him : i ≤ m) (hm : m < l.size) (h5 : A5 b l.size cc a m c fc e) (i0 : e 14 = .int .i64 i) (k0 : e 17 = .int .i64 m)
    (hQ : ∀ e H l', DQ good b H0 H l' → PR l l' i (m + 1) → Rot l l' i m (m + 1) → Q (.exit 6) e H) : WL S b144_1 e H Q := by
  refine l144_1 S (fun d e H' => ∃ l' k, DnM good b H0 l cc a m c i fc d e H' l' k) m ⟨l, m, rfl, by omega, hD, PR.refl _ _ _, Rot.nil (by omega) (by omega) (.inl rfl), h5, i0, k0⟩ ?_
  rintro d e H1 ⟨l1, k, rfl, hk, hq, hp, hro, h5, i0, k0⟩
  obtain ⟨e0, e1, e2, e3, e4⟩ := h5
  have hsz := hp.size
  have hsm := hq.sz
  by_cases h : i < d
  · have h' : (i : Int) < d := by omega
    obtain ⟨k', rfl⟩ : ∃ k', d = k' + 1 := ⟨d - 1, by omega⟩
    obtain ⟨d, hd⟩ : ∃ d, d = k' + 1 := ⟨_, rfl⟩
    rw [← hd] at k0 h h'
    have w2 : IntKind.i64.wrap ((d : Int) - 1) = (k' : Int) := by rw [wi (by omega) (by omega)]; omega
    have g1 := hq.at (i := d) (by omega)
    have g2 := hq.at (i := k') (by omega)
    have x1 : d < l.size := by omega
    have x2 : (d : Int) < l.size := by omega
    have y1 : k' < l.size := by omega
    have y2 : (k' : Int) < l.size := by omega
    obtain ⟨H2, H3, s1, s2, hq3⟩ := hq.sw (i := d) (j := k') (by omega) (by omega)
    simp [s144_1, e0, i0, k0, w2, h, h', x1, x2, y1, y2, addOff, hq.g, g1, g2, s1, s2]
    subst hd
    exact ⟨k', by omega, _, k', rfl, by omega, hq3, hp.swap _ _ (by omega) (by omega) (by omega) (by omega), hro.down (by omega) _ _, ⟨by simp [e0], by simp [e1], by simp [e2], by simp [e3], by simp [e4]⟩, by simp [i0], by simp⟩
  · obtain rfl : i = d := by omega
    simp [s144_1, e0, i0, k0]
    exact hQ _ _ l1 hq hp hro
theorem merge_t (hs : SrtQ lt good fc b H0) : ∀ (f : Nat) {H : Heap} {l : Array Nat} {a m c : Nat}, c - a ≤ f → DQ good b H0 H l → a < m → m < c → c ≤ l.size → Srt lt l a m → Srt lt l m c →
    Wf S 144 [.slice (some ⟨b, 0, none⟩) l.size cc, .int .i64 a, .int .i64 m, .int .i64 c, fc] H fun _ H' => ∃ l', DQ good b H0 H' l' ∧ PR l l' a c ∧ Srt lt l' a c
  | 0, H, l, a, m, c, hf, hD, ham, hmc, hc, hs1, hs2 => by omega
  | f + 1, H, l, a, m, c, hf, hD, ham, hmc, hc, hs1, hs2 => by
    have hsm := hD.sz
    have w1 : IntKind.i64.wrap ((m : Int) - a) = ((m - a : Nat) : Int) := by rw [wi (by omega) (by omega)]; omega
    have w2 : IntKind.i64.wrap ((c : Int) - m) = ((c - m : Nat) : Int) := by rw [wi (by omega) (by omega)]; omega
    obtain ⟨ma, hma⟩ : ∃ ma, ma = m - a := ⟨_, rfl⟩
    obtain ⟨cm, hcm⟩ : ∃ cm, cm = c - m := ⟨_, rfl⟩
    rw [← hma] at w1
    rw [← hcm] at w2
    refine w144 rfl rfl _ _ _ _ _ ?_
    by_cases h1 : ma = 1
    · have hm : m = a + 1 := by omega
      have h1' : (ma : Int) = 1 := by omega
      simp [s144, w1, h1, h1']
      subst hm
      refine SA_t (p := 0) (s0 := a + 1) (r0 := c) (a := a) (m := a + 1) (c := c) (cc := cc) hs hD (by omega) (by omega) (mono_first hs.ord hs2) (by omega) ⟨by simp, by simp, by simp, by simp, by simp⟩ (by simp) (by simp) ?_
      rintro e i hb ⟨e0, e1, e2, e3, e4⟩ i0
      have := hb.a; have := hb.c
      simp [e1]
      refine upM_t (a := a) (m := a + 1) (c := c) (i := i) (cc := cc) (fc := fc) hD (by omega) (by omega) ⟨by simp [e0], by simp [e1], by simp [e2], by simp [e3], by simp [e4]⟩ (by simp [i0]) (by simp) ?_
      intro e' H' l' hq hp hro
      simp
      exact ⟨l', hq, hp.mono (Nat.le_refl _) (by omega), ins_first hs.ord hs2 (by omega) hb hro⟩
    have h1' : ¬ (ma : Int) = 1 := by omega
    by_cases h2 : cm = 1
    · have hc1 : c = m + 1 := by omega
      have h2' : (cm : Int) = 1 := by omega
      simp [s144, w1, h1, h1', w2, h2, h2']
      subst hc1
      refine SB_t (p := 0) (s0 := a) (r0 := m) (a := a) (m := m) (c := m + 1) (cc := cc) hs hD (by omega) (by omega) (mono_last hs.ord hs1) (by omega) ⟨by simp, by simp, by simp, by simp, by simp⟩ (by simp) (by simp) ?_
      rintro e i hb ⟨e0, e1, e2, e3, e4⟩ i0
      have := hb.a; have := hb.c
      simp [e2]
      refine dnM_t (a := a) (m := m) (c := m + 1) (i := i) (cc := cc) (fc := fc) hD (by omega) (by omega) ⟨by simp [e0], by simp [e1], by simp [e2], by simp [e3], by simp [e4]⟩ (by simp [i0]) (by simp) ?_
      intro e' H' l' hq hp hro
      simp
      exact ⟨l', hq, hp.mono (by omega) (Nat.le_refl _), ins_last hs.ord hs1 (by omega) hb hro⟩
    have h2' : ¬ (cm : Int) = 1 := by omega
    obtain ⟨x, hx⟩ : ∃ x, x = a + c := ⟨_, rfl⟩
    obtain ⟨mid, hmid⟩ : ∃ mid, mid = x / 2 := ⟨_, rfl⟩
    obtain ⟨n, hn⟩ : ∃ n, n = mid + m := ⟨_, rfl⟩
    obtain ⟨p, hp⟩ : ∃ p, p = n - 1 := ⟨_, rfl⟩
    have v1 : IntKind.i64.wrap ((a : Int) + c) = (x : Int) := by rw [wi (by omega) (by omega)]; omega
    have v2 : IntKind.u64.wrap (x : Int) = (x : Int) := wu64q (by omega)
    have v3 := half_u (x := x)
    rw [← hmid] at v3
    have v4 : IntKind.i64.wrap (mid : Int) = (mid : Int) := wi (by omega) (by omega)
    have v5 : IntKind.i64.wrap ((mid : Int) + m) = (n : Int) := by rw [wi (by omega) (by omega)]; omega
    have v6 : IntKind.i64.wrap ((n : Int) - 1) = (p : Int) := by rw [wi (by omega) (by omega)]; omega
    have tail : ∀ s0 r0, ((mid < m ∧ s0 = mid + m - c ∧ r0 = mid) ∨ (m ≤ mid ∧ s0 = a ∧ r0 = m)) → Mono (fun k => lt (ix l (p - k)) (ix l k)) s0 r0 := fun s0 r0 h0 => mono_mid (a := a) (m := m) (b := c) hs.ord hs1 hs2 (by omega) (by omega) (by omega) (by omega)
    by_cases h3 : mid < m
    · have h3' : (mid : Int) < m := by omega
      obtain ⟨s0, hs0⟩ : ∃ s0, s0 = n - c := ⟨_, rfl⟩
      have v7 : IntKind.i64.wrap ((n : Int) - c) = (s0 : Int) := by rw [wi (by omega) (by omega)]; omega
      have h0 : (mid < m ∧ s0 = mid + m - c ∧ mid = mid) ∨ (m ≤ mid ∧ s0 = a ∧ mid = m) := .inl ⟨h3, by omega, rfl⟩
      simp [s144, w1, h1, h1', w2, h2, h2', v1, v2, v3, v4, v5, v6, v7, h3, h3']
      refine SC_t (p := p) (s0 := s0) (r0 := mid) (a := a) (m := m) (c := c) (cc := cc) hs hD (by omega) (by omega) (by omega) (by omega) mid n (tail s0 mid h0) (by omega) ⟨by simp, by simp, by simp, by simp, by simp⟩ (by simp) (by simp) (by simp) (by simp) (by simp) ?_
      rintro e st hb ⟨e0, e1, e2, e3, e4⟩ ⟨i0, x22, x18, x19⟩
      have hba := hb.a; have hbc := hb.c
      obtain ⟨en, hen⟩ : ∃ en, en = n - st := ⟨_, rfl⟩
      have w9 : IntKind.i64.wrap ((n : Int) - st) = (en : Int) := by rw [wi (by omega) (by omega)]; omega
      have hb' : BS (fun k => lt (ix l (mid + m - 1 - k)) (ix l k)) s0 mid st st := by rw [show mid + m - 1 = p by omega]; exact hb
      by_cases hro : st < m ∧ m < en
      · obtain ⟨hr1, hr2⟩ := hro
        have hr1' : (st : Int) < m := by omega
        have hr2' : (m : Int) < en := by omega
        simp [e0, e1, e2, e3, e4, i0, x18, x19, w9, hr1, hr1', hr2, hr2']
        refine (rot_t (cc := cc) (fc := fc) hD hr1 hr2 (by omega)).mono ?_
        rintro v H2 ⟨l1, q1, p1, r1⟩
        have par := parted hs.ord hs1 hs2 ham hmc (by omega : mid = (a + c) / 2) h0 hb' (by rw [show mid + m - st = en by omega]; exact r1)
        rw [show mid + m - st = en by omega] at par
        have p1 : PR l l1 a c := p1.mono (by omega) (by omega)
        try simp
        by_cases hL : a < st ∧ st < mid
        · obtain ⟨hL1, hL2⟩ := hL
          have hL1' : (a : Int) < st := by omega
          have hL2' : (st : Int) < mid := by omega
          simp [e0, e1, e2, e3, e4, i0, x18, x19, w9, hL1, hL1', hL2, hL2']
          have z1 := p1.size
          have hm1 := merge_t hs f (H := H2) (l := l1) (a := a) (m := st) (c := mid) (by omega) q1 hL1 hL2 (by omega) par.s1 par.s2
          rw [p1.size] at hm1
          refine hm1.mono ?_
          rintro v H3 ⟨l2, q2, p2, so2⟩
          try simp
          by_cases hR : mid < en ∧ en < c
          · obtain ⟨hR1, hR2⟩ := hR
            have hR1' : (mid : Int) < en := by omega
            have hR2' : (en : Int) < c := by omega
            simp [e0, e1, e2, e3, e4, i0, x18, x19, w9, hR1, hR1', hR2, hR2']
            have z1 := p1.size; have z2 := p2.size
            have hm2 := merge_t hs f (H := H3) (l := l2) (a := mid) (m := en) (c := c) (by omega) q2 hR1 hR2 (by omega) (par.s3.same fun k k1 k2 => p2.out k (by omega)) (par.s4.same fun k k1 k2 => p2.out k (by omega))
            rw [p2.size, p1.size] at hm2
            refine hm2.mono ?_
            rintro v H4 ⟨l3, q3, p3, so3⟩
            try simp
            exact ⟨l3, q3, p1.trans ((p2.mono (by omega) (by omega)).trans (p3.mono (by omega) (by omega))), merged par.hd p2 so2 p3 so3⟩
          · have so3 : Srt lt l2 mid c := by
              by_cases e : en = mid
              · exact (e ▸ par.s4).same fun k k1 k2 => p2.out k (by omega)
              · have : en = c := by omega
                exact (this ▸ par.s3).same fun k k1 k2 => p2.out k (by omega)
            by_cases hR1 : mid < en
            · have hR1' : (mid : Int) < en := by omega
              have hR2 : ¬ en < c := by omega
              have hR2' : ¬ (en : Int) < c := by omega
              simp [e0, e1, e2, e3, e4, i0, x18, x19, w9, hR1, hR1', hR2, hR2']
              exact ⟨l2, q2, p1.trans (p2.mono (by omega) (by omega)), merged par.hd p2 so2 (PR.refl _ _ _) so3⟩
            · have hR1' : ¬ (mid : Int) < en := by omega
              simp [e0, e1, e2, e3, e4, i0, x18, x19, w9, hR1, hR1']
              exact ⟨l2, q2, p1.trans (p2.mono (by omega) (by omega)), merged par.hd p2 so2 (PR.refl _ _ _) so3⟩
        · obtain ⟨l2, hl2⟩ : ∃ l2, l2 = l1 := ⟨_, rfl⟩
          have q2 : DQ good b H0 H2 l2 := hl2 ▸ q1
          have p2 : PR l1 l2 a mid := hl2 ▸ PR.refl _ _ _
          have so2 : Srt lt l2 a mid := by
            rw [hl2]
            by_cases e : st = a
            · exact e ▸ par.s2
            · have : st = mid := by omega
              exact this ▸ par.s1
          by_cases hL1 : a < st
          · have hL1' : (a : Int) < st := by omega
            have hL2 : ¬ st < mid := by omega
            have hL2' : ¬ (st : Int) < mid := by omega
            simp [e0, e1, e2, e3, e4, i0, x18, x19, w9, hL1, hL1', hL2, hL2']
            by_cases hR : mid < en ∧ en < c
            · obtain ⟨hR1, hR2⟩ := hR
              have hR1' : (mid : Int) < en := by omega
              have hR2' : (en : Int) < c := by omega
              simp [e0, e1, e2, e3, e4, i0, x18, x19, w9, hR1, hR1', hR2, hR2']
              have z1 := p1.size; have z2 := p2.size
              have hm2 := merge_t hs f (H := H2) (l := l2) (a := mid) (m := en) (c := c) (by omega) q2 hR1 hR2 (by omega) (par.s3.same fun k k1 k2 => p2.out k (by omega)) (par.s4.same fun k k1 k2 => p2.out k (by omega))
              rw [p2.size, p1.size] at hm2
              refine hm2.mono ?_
              rintro v H4 ⟨l3, q3, p3, so3⟩
              try simp
              exact ⟨l3, q3, p1.trans ((p2.mono (by omega) (by omega)).trans (p3.mono (by omega) (by omega))), merged par.hd p2 so2 p3 so3⟩
            · have so3 : Srt lt l2 mid c := by
                by_cases e : en = mid
                · exact (e ▸ par.s4).same fun k k1 k2 => p2.out k (by omega)
                · have : en = c := by omega
                  exact (this ▸ par.s3).same fun k k1 k2 => p2.out k (by omega)
              by_cases hR1 : mid < en
              · have hR1' : (mid : Int) < en := by omega
                have hR2 : ¬ en < c := by omega
                have hR2' : ¬ (en : Int) < c := by omega
                simp [e0, e1, e2, e3, e4, i0, x18, x19, w9, hR1, hR1', hR2, hR2']
                exact ⟨l2, q2, p1.trans (p2.mono (by omega) (by omega)), merged par.hd p2 so2 (PR.refl _ _ _) so3⟩
              · have hR1' : ¬ (mid : Int) < en := by omega
                simp [e0, e1, e2, e3, e4, i0, x18, x19, w9, hR1, hR1']
                exact ⟨l2, q2, p1.trans (p2.mono (by omega) (by omega)), merged par.hd p2 so2 (PR.refl _ _ _) so3⟩
          · have hL1' : ¬ (a : Int) < st := by omega
            simp [e0, e1, e2, e3, e4, i0, x18, x19, w9, hL1, hL1']
            by_cases hR : mid < en ∧ en < c
            · obtain ⟨hR1, hR2⟩ := hR
              have hR1' : (mid : Int) < en := by omega
              have hR2' : (en : Int) < c := by omega
              simp [e0, e1, e2, e3, e4, i0, x18, x19, w9, hR1, hR1', hR2, hR2']
              have z1 := p1.size; have z2 := p2.size
              have hm2 := merge_t hs f (H := H2) (l := l2) (a := mid) (m := en) (c := c) (by omega) q2 hR1 hR2 (by omega) (par.s3.same fun k k1 k2 => p2.out k (by omega)) (par.s4.same fun k k1 k2 => p2.out k (by omega))
              rw [p2.size, p1.size] at hm2
              refine hm2.mono ?_
              rintro v H4 ⟨l3, q3, p3, so3⟩
              try simp
              exact ⟨l3, q3, p1.trans ((p2.mono (by omega) (by omega)).trans (p3.mono (by omega) (by omega))), merged par.hd p2 so2 p3 so3⟩
            · have so3 : Srt lt l2 mid c := by
                by_cases e : en = mid
                · exact (e ▸ par.s4).same fun k k1 k2 => p2.out k (by omega)
                · have : en = c := by omega
                  exact (this ▸ par.s3).same fun k k1 k2 => p2.out k (by omega)
              by_cases hR1 : mid < en
              · have hR1' : (mid : Int) < en := by omega
                have hR2 : ¬ en < c := by omega
                have hR2' : ¬ (en : Int) < c := by omega
                simp [e0, e1, e2, e3, e4, i0, x18, x19, w9, hR1, hR1', hR2, hR2']
                exact ⟨l2, q2, p1.trans (p2.mono (by omega) (by omega)), merged par.hd p2 so2 (PR.refl _ _ _) so3⟩
              · have hR1' : ¬ (mid : Int) < en := by omega
                simp [e0, e1, e2, e3, e4, i0, x18, x19, w9, hR1, hR1']
                exact ⟨l2, q2, p1.trans (p2.mono (by omega) (by omega)), merged par.hd p2 so2 (PR.refl _ _ _) so3⟩
      · obtain ⟨l1, hl1⟩ : ∃ l1, l1 = l := ⟨_, rfl⟩
        have r1 : Rot l l1 st m en := hl1 ▸ Rot.nil (by omega) (by omega) (by omega)
        have q1 : DQ good b H0 H l1 := hl1 ▸ hD
        have p1 : PR l l1 a c := hl1 ▸ PR.refl _ _ _
        have par := parted hs.ord hs1 hs2 ham hmc (by omega : mid = (a + c) / 2) h0 hb' (by rw [show mid + m - st = en by omega]; exact r1)
        rw [show mid + m - st = en by omega] at par
        by_cases hr1 : st < m
        · have hr1' : (st : Int) < m := by omega
          have hr2 : ¬ m < en := by omega
          have hr2' : ¬ (m : Int) < en := by omega
          simp [e0, e1, e2, e3, e4, i0, x18, x19, w9, hr1, hr1', hr2, hr2']
          by_cases hL : a < st ∧ st < mid
          · obtain ⟨hL1, hL2⟩ := hL
            have hL1' : (a : Int) < st := by omega
            have hL2' : (st : Int) < mid := by omega
            simp [e0, e1, e2, e3, e4, i0, x18, x19, w9, hL1, hL1', hL2, hL2']
            have z1 := p1.size
            have hm1 := merge_t hs f (H := H) (l := l1) (a := a) (m := st) (c := mid) (by omega) q1 hL1 hL2 (by omega) par.s1 par.s2
            rw [p1.size] at hm1
            refine hm1.mono ?_
            rintro v H3 ⟨l2, q2, p2, so2⟩
            try simp
            by_cases hR : mid < en ∧ en < c
            · obtain ⟨hR1, hR2⟩ := hR
              have hR1' : (mid : Int) < en := by omega
              have hR2' : (en : Int) < c := by omega
              simp [e0, e1, e2, e3, e4, i0, x18, x19, w9, hR1, hR1', hR2, hR2']
              have z1 := p1.size; have z2 := p2.size
              have hm2 := merge_t hs f (H := H3) (l := l2) (a := mid) (m := en) (c := c) (by omega) q2 hR1 hR2 (by omega) (par.s3.same fun k k1 k2 => p2.out k (by omega)) (par.s4.same fun k k1 k2 => p2.out k (by omega))
              rw [p2.size, p1.size] at hm2
              refine hm2.mono ?_
              rintro v H4 ⟨l3, q3, p3, so3⟩
              try simp
              exact ⟨l3, q3, p1.trans ((p2.mono (by omega) (by omega)).trans (p3.mono (by omega) (by omega))), merged par.hd p2 so2 p3 so3⟩
            · have so3 : Srt lt l2 mid c := by
                by_cases e : en = mid
                · exact (e ▸ par.s4).same fun k k1 k2 => p2.out k (by omega)
                · have : en = c := by omega
                  exact (this ▸ par.s3).same fun k k1 k2 => p2.out k (by omega)
              by_cases hR1 : mid < en
              · have hR1' : (mid : Int) < en := by omega
                have hR2 : ¬ en < c := by omega
                have hR2' : ¬ (en : Int) < c := by omega
                simp [e0, e1, e2, e3, e4, i0, x18, x19, w9, hR1, hR1', hR2, hR2']
                exact ⟨l2, q2, p1.trans (p2.mono (by omega) (by omega)), merged par.hd p2 so2 (PR.refl _ _ _) so3⟩
              · have hR1' : ¬ (mid : Int) < en := by omega
                simp [e0, e1, e2, e3, e4, i0, x18, x19, w9, hR1, hR1']
                exact ⟨l2, q2, p1.trans (p2.mono (by omega) (by omega)), merged par.hd p2 so2 (PR.refl _ _ _) so3⟩
          · obtain ⟨l2, hl2⟩ : ∃ l2, l2 = l1 := ⟨_, rfl⟩
            have q2 : DQ good b H0 H l2 := hl2 ▸ q1
            have p2 : PR l1 l2 a mid := hl2 ▸ PR.refl _ _ _
            have so2 : Srt lt l2 a mid := by
              rw [hl2]
              by_cases e : st = a
              · exact e ▸ par.s2
              · have : st = mid := by omega
                exact this ▸ par.s1
            by_cases hL1 : a < st
            · have hL1' : (a : Int) < st := by omega
              have hL2 : ¬ st < mid := by omega
              have hL2' : ¬ (st : Int) < mid := by omega
              simp [e0, e1, e2, e3, e4, i0, x18, x19, w9, hL1, hL1', hL2, hL2']
              by_cases hR : mid < en ∧ en < c
              · obtain ⟨hR1, hR2⟩ := hR
                have hR1' : (mid : Int) < en := by omega
                have hR2' : (en : Int) < c := by omega
                simp [e0, e1, e2, e3, e4, i0, x18, x19, w9, hR1, hR1', hR2, hR2']
                have z1 := p1.size; have z2 := p2.size
                have hm2 := merge_t hs f (H := H) (l := l2) (a := mid) (m := en) (c := c) (by omega) q2 hR1 hR2 (by omega) (par.s3.same fun k k1 k2 => p2.out k (by omega)) (par.s4.same fun k k1 k2 => p2.out k (by omega))
                rw [p2.size, p1.size] at hm2
                refine hm2.mono ?_
                rintro v H4 ⟨l3, q3, p3, so3⟩
                try simp
                exact ⟨l3, q3, p1.trans ((p2.mono (by omega) (by omega)).trans (p3.mono (by omega) (by omega))), merged par.hd p2 so2 p3 so3⟩
              · have so3 : Srt lt l2 mid c := by
                  by_cases e : en = mid
                  · exact (e ▸ par.s4).same fun k k1 k2 => p2.out k (by omega)
                  · have : en = c := by omega
                    exact (this ▸ par.s3).same fun k k1 k2 => p2.out k (by omega)
                by_cases hR1 : mid < en
                · have hR1' : (mid : Int) < en := by omega
                  have hR2 : ¬ en < c := by omega
                  have hR2' : ¬ (en : Int) < c := by omega
                  simp [e0, e1, e2, e3, e4, i0, x18, x19, w9, hR1, hR1', hR2, hR2']
                  exact ⟨l2, q2, p1.trans (p2.mono (by omega) (by omega)), merged par.hd p2 so2 (PR.refl _ _ _) so3⟩
                · have hR1' : ¬ (mid : Int) < en := by omega
                  simp [e0, e1, e2, e3, e4, i0, x18, x19, w9, hR1, hR1']
                  exact ⟨l2, q2, p1.trans (p2.mono (by omega) (by omega)), merged par.hd p2 so2 (PR.refl _ _ _) so3⟩
            · have hL1' : ¬ (a : Int) < st := by omega
              simp [e0, e1, e2, e3, e4, i0, x18, x19, w9, hL1, hL1']
              by_cases hR : mid < en ∧ en < c
              · obtain ⟨hR1, hR2⟩ := hR
                have hR1' : (mid : Int) < en := by omega
                have hR2' : (en : Int) < c := by omega
                simp [e0, e1, e2, e3, e4, i0, x18, x19, w9, hR1, hR1', hR2, hR2']
                have z1 := p1.size; have z2 := p2.size
                have hm2 := merge_t hs f (H := H) (l := l2) (a := mid) (m := en) (c := c) (by omega) q2 hR1 hR2 (by omega) (par.s3.same fun k k1 k2 => p2.out k (by omega)) (par.s4.same fun k k1 k2 => p2.out k (by omega))
                rw [p2.size, p1.size] at hm2
                refine hm2.mono ?_
                rintro v H4 ⟨l3, q3, p3, so3⟩
                try simp
                exact ⟨l3, q3, p1.trans ((p2.mono (by omega) (by omega)).trans (p3.mono (by omega) (by omega))), merged par.hd p2 so2 p3 so3⟩
              · have so3 : Srt lt l2 mid c := by
                  by_cases e : en = mid
                  · exact (e ▸ par.s4).same fun k k1 k2 => p2.out k (by omega)
                  · have : en = c := by omega
                    exact (this ▸ par.s3).same fun k k1 k2 => p2.out k (by omega)
                by_cases hR1 : mid < en
                · have hR1' : (mid : Int) < en := by omega
                  have hR2 : ¬ en < c := by omega
                  have hR2' : ¬ (en : Int) < c := by omega
                  simp [e0, e1, e2, e3, e4, i0, x18, x19, w9, hR1, hR1', hR2, hR2']
                  exact ⟨l2, q2, p1.trans (p2.mono (by omega) (by omega)), merged par.hd p2 so2 (PR.refl _ _ _) so3⟩
                · have hR1' : ¬ (mid : Int) < en := by omega
                  simp [e0, e1, e2, e3, e4, i0, x18, x19, w9, hR1, hR1']
                  exact ⟨l2, q2, p1.trans (p2.mono (by omega) (by omega)), merged par.hd p2 so2 (PR.refl _ _ _) so3⟩
        · have hr1' : ¬ (st : Int) < m := by omega
          simp [e0, e1, e2, e3, e4, i0, x18, x19, w9, hr1, hr1']
          by_cases hL : a < st ∧ st < mid
          · obtain ⟨hL1, hL2⟩ := hL
            have hL1' : (a : Int) < st := by omega
            have hL2' : (st : Int) < mid := by omega
            simp [e0, e1, e2, e3, e4, i0, x18, x19, w9, hL1, hL1', hL2, hL2']
            have z1 := p1.size
            have hm1 := merge_t hs f (H := H) (l := l1) (a := a) (m := st) (c := mid) (by omega) q1 hL1 hL2 (by omega) par.s1 par.s2
            rw [p1.size] at hm1
            refine hm1.mono ?_
            rintro v H3 ⟨l2, q2, p2, so2⟩
            try simp
            by_cases hR : mid < en ∧ en < c
            · obtain ⟨hR1, hR2⟩ := hR
              have hR1' : (mid : Int) < en := by omega
              have hR2' : (en : Int) < c := by omega
              simp [e0, e1, e2, e3, e4, i0, x18, x19, w9, hR1, hR1', hR2, hR2']
              have z1 := p1.size; have z2 := p2.size
              have hm2 := merge_t hs f (H := H3) (l := l2) (a := mid) (m := en) (c := c) (by omega) q2 hR1 hR2 (by omega) (par.s3.same fun k k1 k2 => p2.out k (by omega)) (par.s4.same fun k k1 k2 => p2.out k (by omega))
              rw [p2.size, p1.size] at hm2
              refine hm2.mono ?_
              rintro v H4 ⟨l3, q3, p3, so3⟩
              try simp
              exact ⟨l3, q3, p1.trans ((p2.mono (by omega) (by omega)).trans (p3.mono (by omega) (by omega))), merged par.hd p2 so2 p3 so3⟩
            · have so3 : Srt lt l2 mid c := by
                by_cases e : en = mid
                · exact (e ▸ par.s4).same fun k k1 k2 => p2.out k (by omega)
                · have : en = c := by omega
                  exact (this ▸ par.s3).same fun k k1 k2 => p2.out k (by omega)
              by_cases hR1 : mid < en
              · have hR1' : (mid : Int) < en := by omega
                have hR2 : ¬ en < c := by omega
                have hR2' : ¬ (en : Int) < c := by omega
                simp [e0, e1, e2, e3, e4, i0, x18, x19, w9, hR1, hR1', hR2, hR2']
                exact ⟨l2, q2, p1.trans (p2.mono (by omega) (by omega)), merged par.hd p2 so2 (PR.refl _ _ _) so3⟩
              · have hR1' : ¬ (mid : Int) < en := by omega
                simp [e0, e1, e2, e3, e4, i0, x18, x19, w9, hR1, hR1']
                exact ⟨l2, q2, p1.trans (p2.mono (by omega) (by omega)), merged par.hd p2 so2 (PR.refl _ _ _) so3⟩
          · obtain ⟨l2, hl2⟩ : ∃ l2, l2 = l1 := ⟨_, rfl⟩
            have q2 : DQ good b H0 H l2 := hl2 ▸ q1
            have p2 : PR l1 l2 a mid := hl2 ▸ PR.refl _ _ _
            have so2 : Srt lt l2 a mid := by
              rw [hl2]
              by_cases e : st = a
              · exact e ▸ par.s2
              · have : st = mid := by omega
                exact this ▸ par.s1
            by_cases hL1 : a < st
            · have hL1' : (a : Int) < st := by omega
              have hL2 : ¬ st < mid := by omega
              have hL2' : ¬ (st : Int) < mid := by omega
              simp [e0, e1, e2, e3, e4, i0, x18, x19, w9, hL1, hL1', hL2, hL2']
              by_cases hR : mid < en ∧ en < c
              · obtain ⟨hR1, hR2⟩ := hR
                have hR1' : (mid : Int) < en := by omega
                have hR2' : (en : Int) < c := by omega
                simp [e0, e1, e2, e3, e4, i0, x18, x19, w9, hR1, hR1', hR2, hR2']
                have z1 := p1.size; have z2 := p2.size
                have hm2 := merge_t hs f (H := H) (l := l2) (a := mid) (m := en) (c := c) (by omega) q2 hR1 hR2 (by omega) (par.s3.same fun k k1 k2 => p2.out k (by omega)) (par.s4.same fun k k1 k2 => p2.out k (by omega))
                rw [p2.size, p1.size] at hm2
                refine hm2.mono ?_
                rintro v H4 ⟨l3, q3, p3, so3⟩
                try simp
                exact ⟨l3, q3, p1.trans ((p2.mono (by omega) (by omega)).trans (p3.mono (by omega) (by omega))), merged par.hd p2 so2 p3 so3⟩
              · have so3 : Srt lt l2 mid c := by
                  by_cases e : en = mid
                  · exact (e ▸ par.s4).same fun k k1 k2 => p2.out k (by omega)
                  · have : en = c := by omega
                    exact (this ▸ par.s3).same fun k k1 k2 => p2.out k (by omega)
                by_cases hR1 : mid < en
                · have hR1' : (mid : Int) < en := by omega
                  have hR2 : ¬ en < c := by omega
                  have hR2' : ¬ (en : Int) < c := by omega
                  simp [e0, e1, e2, e3, e4, i0, x18, x19, w9, hR1, hR1', hR2, hR2']
                  exact ⟨l2, q2, p1.trans (p2.mono (by omega) (by omega)), merged par.hd p2 so2 (PR.refl _ _ _) so3⟩
                · have hR1' : ¬ (mid : Int) < en := by omega
                  simp [e0, e1, e2, e3, e4, i0, x18, x19, w9, hR1, hR1']
                  exact ⟨l2, q2, p1.trans (p2.mono (by omega) (by omega)), merged par.hd p2 so2 (PR.refl _ _ _) so3⟩
            · have hL1' : ¬ (a : Int) < st := by omega
              simp [e0, e1, e2, e3, e4, i0, x18, x19, w9, hL1, hL1']
              by_cases hR : mid < en ∧ en < c
              · obtain ⟨hR1, hR2⟩ := hR
                have hR1' : (mid : Int) < en := by omega
                have hR2' : (en : Int) < c := by omega
                simp [e0, e1, e2, e3, e4, i0, x18, x19, w9, hR1, hR1', hR2, hR2']
                have z1 := p1.size; have z2 := p2.size
                have hm2 := merge_t hs f (H := H) (l := l2) (a := mid) (m := en) (c := c) (by omega) q2 hR1 hR2 (by omega) (par.s3.same fun k k1 k2 => p2.out k (by omega)) (par.s4.same fun k k1 k2 => p2.out k (by omega))
                rw [p2.size, p1.size] at hm2
                refine hm2.mono ?_
                rintro v H4 ⟨l3, q3, p3, so3⟩
                try simp
                exact ⟨l3, q3, p1.trans ((p2.mono (by omega) (by omega)).trans (p3.mono (by omega) (by omega))), merged par.hd p2 so2 p3 so3⟩
              · have so3 : Srt lt l2 mid c := by
                  by_cases e : en = mid
                  · exact (e ▸ par.s4).same fun k k1 k2 => p2.out k (by omega)
                  · have : en = c := by omega
                    exact (this ▸ par.s3).same fun k k1 k2 => p2.out k (by omega)
                by_cases hR1 : mid < en
                · have hR1' : (mid : Int) < en := by omega
                  have hR2 : ¬ en < c := by omega
                  have hR2' : ¬ (en : Int) < c := by omega
                  simp [e0, e1, e2, e3, e4, i0, x18, x19, w9, hR1, hR1', hR2, hR2']
                  exact ⟨l2, q2, p1.trans (p2.mono (by omega) (by omega)), merged par.hd p2 so2 (PR.refl _ _ _) so3⟩
                · have hR1' : ¬ (mid : Int) < en := by omega
                  simp [e0, e1, e2, e3, e4, i0, x18, x19, w9, hR1, hR1']
                  exact ⟨l2, q2, p1.trans (p2.mono (by omega) (by omega)), merged par.hd p2 so2 (PR.refl _ _ _) so3⟩
    · have h3' : ¬ (mid : Int) < m := by omega
      obtain ⟨s0, hs0⟩ : ∃ s0, s0 = a := ⟨_, rfl⟩
      have h0 : (mid < m ∧ s0 = mid + m - c ∧ m = mid) ∨ (m ≤ mid ∧ s0 = a ∧ m = m) := .inr ⟨by omega, by omega, rfl⟩
      simp [s144, w1, h1, h1', w2, h2, h2', v1, v2, v3, v4, v5, v6, h3, h3']
      refine SC_t (p := p) (s0 := s0) (r0 := m) (a := a) (m := m) (c := c) (cc := cc) hs hD (by omega) (by omega) (by omega) (by omega) mid n (tail s0 m h0) (by omega) ⟨by simp, by simp, by simp, by simp, by simp⟩ (by simp [hs0]) (by simp) (by simp) (by simp) (by simp) ?_
      rintro e st hb ⟨e0, e1, e2, e3, e4⟩ ⟨i0, x22, x18, x19⟩
      have hba := hb.a; have hbc := hb.c
      obtain ⟨en, hen⟩ : ∃ en, en = n - st := ⟨_, rfl⟩
      have w9 : IntKind.i64.wrap ((n : Int) - st) = (en : Int) := by rw [wi (by omega) (by omega)]; omega
      have hb' : BS (fun k => lt (ix l (mid + m - 1 - k)) (ix l k)) s0 m st st := by rw [show mid + m - 1 = p by omega]; exact hb
      by_cases hro : st < m ∧ m < en
      · obtain ⟨hr1, hr2⟩ := hro
        have hr1' : (st : Int) < m := by omega
        have hr2' : (m : Int) < en := by omega
        simp [e0, e1, e2, e3, e4, i0, x18, x19, w9, hr1, hr1', hr2, hr2']
        refine (rot_t (cc := cc) (fc := fc) hD hr1 hr2 (by omega)).mono ?_
        rintro v H2 ⟨l1, q1, p1, r1⟩
        have par := parted hs.ord hs1 hs2 ham hmc (by omega : mid = (a + c) / 2) h0 hb' (by rw [show mid + m - st = en by omega]; exact r1)
        rw [show mid + m - st = en by omega] at par
        have p1 : PR l l1 a c := p1.mono (by omega) (by omega)
        try simp
        by_cases hL : a < st ∧ st < mid
        · obtain ⟨hL1, hL2⟩ := hL
          have hL1' : (a : Int) < st := by omega
          have hL2' : (st : Int) < mid := by omega
          simp [e0, e1, e2, e3, e4, i0, x18, x19, w9, hL1, hL1', hL2, hL2']
          have z1 := p1.size
          have hm1 := merge_t hs f (H := H2) (l := l1) (a := a) (m := st) (c := mid) (by omega) q1 hL1 hL2 (by omega) par.s1 par.s2
          rw [p1.size] at hm1
          refine hm1.mono ?_
          rintro v H3 ⟨l2, q2, p2, so2⟩
          try simp
          by_cases hR : mid < en ∧ en < c
          · obtain ⟨hR1, hR2⟩ := hR
            have hR1' : (mid : Int) < en := by omega
            have hR2' : (en : Int) < c := by omega
            simp [e0, e1, e2, e3, e4, i0, x18, x19, w9, hR1, hR1', hR2, hR2']
            have z1 := p1.size; have z2 := p2.size
            have hm2 := merge_t hs f (H := H3) (l := l2) (a := mid) (m := en) (c := c) (by omega) q2 hR1 hR2 (by omega) (par.s3.same fun k k1 k2 => p2.out k (by omega)) (par.s4.same fun k k1 k2 => p2.out k (by omega))
            rw [p2.size, p1.size] at hm2
            refine hm2.mono ?_
            rintro v H4 ⟨l3, q3, p3, so3⟩
            try simp
            exact ⟨l3, q3, p1.trans ((p2.mono (by omega) (by omega)).trans (p3.mono (by omega) (by omega))), merged par.hd p2 so2 p3 so3⟩
          · have so3 : Srt lt l2 mid c := by
              by_cases e : en = mid
              · exact (e ▸ par.s4).same fun k k1 k2 => p2.out k (by omega)
              · have : en = c := by omega
                exact (this ▸ par.s3).same fun k k1 k2 => p2.out k (by omega)
            by_cases hR1 : mid < en
            · have hR1' : (mid : Int) < en := by omega
              have hR2 : ¬ en < c := by omega
              have hR2' : ¬ (en : Int) < c := by omega
              simp [e0, e1, e2, e3, e4, i0, x18, x19, w9, hR1, hR1', hR2, hR2']
              exact ⟨l2, q2, p1.trans (p2.mono (by omega) (by omega)), merged par.hd p2 so2 (PR.refl _ _ _) so3⟩
            · have hR1' : ¬ (mid : Int) < en := by omega
              simp [e0, e1, e2, e3, e4, i0, x18, x19, w9, hR1, hR1']
              exact ⟨l2, q2, p1.trans (p2.mono (by omega) (by omega)), merged par.hd p2 so2 (PR.refl _ _ _) so3⟩
        · obtain ⟨l2, hl2⟩ : ∃ l2, l2 = l1 := ⟨_, rfl⟩
          have q2 : DQ good b H0 H2 l2 := hl2 ▸ q1
          have p2 : PR l1 l2 a mid := hl2 ▸ PR.refl _ _ _
          have so2 : Srt lt l2 a mid := by
            rw [hl2]
            by_cases e : st = a
            · exact e ▸ par.s2
            · have : st = mid := by omega
              exact this ▸ par.s1
          by_cases hL1 : a < st
          · have hL1' : (a : Int) < st := by omega
            have hL2 : ¬ st < mid := by omega
            have hL2' : ¬ (st : Int) < mid := by omega
            simp [e0, e1, e2, e3, e4, i0, x18, x19, w9, hL1, hL1', hL2, hL2']
            by_cases hR : mid < en ∧ en < c
            · obtain ⟨hR1, hR2⟩ := hR
              have hR1' : (mid : Int) < en := by omega
              have hR2' : (en : Int) < c := by omega
              simp [e0, e1, e2, e3, e4, i0, x18, x19, w9, hR1, hR1', hR2, hR2']
              have z1 := p1.size; have z2 := p2.size
              have hm2 := merge_t hs f (H := H2) (l := l2) (a := mid) (m := en) (c := c) (by omega) q2 hR1 hR2 (by omega) (par.s3.same fun k k1 k2 => p2.out k (by omega)) (par.s4.same fun k k1 k2 => p2.out k (by omega))
              rw [p2.size, p1.size] at hm2
              refine hm2.mono ?_
              rintro v H4 ⟨l3, q3, p3, so3⟩
              try simp
              exact ⟨l3, q3, p1.trans ((p2.mono (by omega) (by omega)).trans (p3.mono (by omega) (by omega))), merged par.hd p2 so2 p3 so3⟩
            · have so3 : Srt lt l2 mid c := by
                by_cases e : en = mid
                · exact (e ▸ par.s4).same fun k k1 k2 => p2.out k (by omega)
                · have : en = c := by omega
                  exact (this ▸ par.s3).same fun k k1 k2 => p2.out k (by omega)
              by_cases hR1 : mid < en
              · have hR1' : (mid : Int) < en := by omega
                have hR2 : ¬ en < c := by omega
                have hR2' : ¬ (en : Int) < c := by omega
                simp [e0, e1, e2, e3, e4, i0, x18, x19, w9, hR1, hR1', hR2, hR2']
                exact ⟨l2, q2, p1.trans (p2.mono (by omega) (by omega)), merged par.hd p2 so2 (PR.refl _ _ _) so3⟩
              · have hR1' : ¬ (mid : Int) < en := by omega
                simp [e0, e1, e2, e3, e4, i0, x18, x19, w9, hR1, hR1']
                exact ⟨l2, q2, p1.trans (p2.mono (by omega) (by omega)), merged par.hd p2 so2 (PR.refl _ _ _) so3⟩
          · have hL1' : ¬ (a : Int) < st := by omega
            simp [e0, e1, e2, e3, e4, i0, x18, x19, w9, hL1, hL1']
            by_cases hR : mid < en ∧ en < c
            · obtain ⟨hR1, hR2⟩ := hR
              have hR1' : (mid : Int) < en := by omega
              have hR2' : (en : Int) < c := by omega
              simp [e0, e1, e2, e3, e4, i0, x18, x19, w9, hR1, hR1', hR2, hR2']
              have z1 := p1.size; have z2 := p2.size
              have hm2 := merge_t hs f (H := H2) (l := l2) (a := mid) (m := en) (c := c) (by omega) q2 hR1 hR2 (by omega) (par.s3.same fun k k1 k2 => p2.out k (by omega)) (par.s4.same fun k k1 k2 => p2.out k (by omega))
              rw [p2.size, p1.size] at hm2
              refine hm2.mono ?_
              rintro v H4 ⟨l3, q3, p3, so3⟩
              try simp
              exact ⟨l3, q3, p1.trans ((p2.mono (by omega) (by omega)).trans (p3.mono (by omega) (by omega))), merged par.hd p2 so2 p3 so3⟩
            · have so3 : Srt lt l2 mid c := by
                by_cases e : en = mid
                · exact (e ▸ par.s4).same fun k k1 k2 => p2.out k (by omega)
                · have : en = c := by omega
                  exact (this ▸ par.s3).same fun k k1 k2 => p2.out k (by omega)
              by_cases hR1 : mid < en
              · have hR1' : (mid : Int) < en := by omega
                have hR2 : ¬ en < c := by omega
                have hR2' : ¬ (en : Int) < c := by omega
                simp [e0, e1, e2, e3, e4, i0, x18, x19, w9, hR1, hR1', hR2, hR2']
                exact ⟨l2, q2, p1.trans (p2.mono (by omega) (by omega)), merged par.hd p2 so2 (PR.refl _ _ _) so3⟩
              · have hR1' : ¬ (mid : Int) < en := by omega
                simp [e0, e1, e2, e3, e4, i0, x18, x19, w9, hR1, hR1']
                exact ⟨l2, q2, p1.trans (p2.mono (by omega) (by omega)), merged par.hd p2 so2 (PR.refl _ _ _) so3⟩
      · obtain ⟨l1, hl1⟩ : ∃ l1, l1 = l := ⟨_, rfl⟩
        have r1 : Rot l l1 st m en := hl1 ▸ Rot.nil (by omega) (by omega) (by omega)
        have q1 : DQ good b H0 H l1 := hl1 ▸ hD
        have p1 : PR l l1 a c := hl1 ▸ PR.refl _ _ _
        have par := parted hs.ord hs1 hs2 ham hmc (by omega : mid = (a + c) / 2) h0 hb' (by rw [show mid + m - st = en by omega]; exact r1)
        rw [show mid + m - st = en by omega] at par
        by_cases hr1 : st < m
        · have hr1' : (st : Int) < m := by omega
          have hr2 : ¬ m < en := by omega
          have hr2' : ¬ (m : Int) < en := by omega
          simp [e0, e1, e2, e3, e4, i0, x18, x19, w9, hr1, hr1', hr2, hr2']
          by_cases hL : a < st ∧ st < mid
          · obtain ⟨hL1, hL2⟩ := hL
            have hL1' : (a : Int) < st := by omega
            have hL2' : (st : Int) < mid := by omega
            simp [e0, e1, e2, e3, e4, i0, x18, x19, w9, hL1, hL1', hL2, hL2']
            have z1 := p1.size
            have hm1 := merge_t hs f (H := H) (l := l1) (a := a) (m := st) (c := mid) (by omega) q1 hL1 hL2 (by omega) par.s1 par.s2
            rw [p1.size] at hm1
            refine hm1.mono ?_
            rintro v H3 ⟨l2, q2, p2, so2⟩
            try simp
            by_cases hR : mid < en ∧ en < c
            · obtain ⟨hR1, hR2⟩ := hR
              have hR1' : (mid : Int) < en := by omega
              have hR2' : (en : Int) < c := by omega
              simp [e0, e1, e2, e3, e4, i0, x18, x19, w9, hR1, hR1', hR2, hR2']
              have z1 := p1.size; have z2 := p2.size
              have hm2 := merge_t hs f (H := H3) (l := l2) (a := mid) (m := en) (c := c) (by omega) q2 hR1 hR2 (by omega) (par.s3.same fun k k1 k2 => p2.out k (by omega)) (par.s4.same fun k k1 k2 => p2.out k (by omega))
              rw [p2.size, p1.size] at hm2
              refine hm2.mono ?_
              rintro v H4 ⟨l3, q3, p3, so3⟩
              try simp
              exact ⟨l3, q3, p1.trans ((p2.mono (by omega) (by omega)).trans (p3.mono (by omega) (by omega))), merged par.hd p2 so2 p3 so3⟩
            · have so3 : Srt lt l2 mid c := by
                by_cases e : en = mid
                · exact (e ▸ par.s4).same fun k k1 k2 => p2.out k (by omega)
                · have : en = c := by omega
                  exact (this ▸ par.s3).same fun k k1 k2 => p2.out k (by omega)
              by_cases hR1 : mid < en
              · have hR1' : (mid : Int) < en := by omega
                have hR2 : ¬ en < c := by omega
                have hR2' : ¬ (en : Int) < c := by omega
                simp [e0, e1, e2, e3, e4, i0, x18, x19, w9, hR1, hR1', hR2, hR2']
                exact ⟨l2, q2, p1.trans (p2.mono (by omega) (by omega)), merged par.hd p2 so2 (PR.refl _ _ _) so3⟩
              · have hR1' : ¬ (mid : Int) < en := by omega
                simp [e0, e1, e2, e3, e4, i0, x18, x19, w9, hR1, hR1']
                exact ⟨l2, q2, p1.trans (p2.mono (by omega) (by omega)), merged par.hd p2 so2 (PR.refl _ _ _) so3⟩
          · obtain ⟨l2, hl2⟩ : ∃ l2, l2 = l1 := ⟨_, rfl⟩
            have q2 : DQ good b H0 H l2 := hl2 ▸ q1
            have p2 : PR l1 l2 a mid := hl2 ▸ PR.refl _ _ _
            have so2 : Srt lt l2 a mid := by
              rw [hl2]
              by_cases e : st = a
              · exact e ▸ par.s2
              · have : st = mid := by omega
                exact this ▸ par.s1
            by_cases hL1 : a < st
            · have hL1' : (a : Int) < st := by omega
              have hL2 : ¬ st < mid := by omega
              have hL2' : ¬ (st : Int) < mid := by omega
              simp [e0, e1, e2, e3, e4, i0, x18, x19, w9, hL1, hL1', hL2, hL2']
              by_cases hR : mid < en ∧ en < c
              · obtain ⟨hR1, hR2⟩ := hR
                have hR1' : (mid : Int) < en := by omega
                have hR2' : (en : Int) < c := by omega
                simp [e0, e1, e2, e3, e4, i0, x18, x19, w9, hR1, hR1', hR2, hR2']
                have z1 := p1.size; have z2 := p2.size
                have hm2 := merge_t hs f (H := H) (l := l2) (a := mid) (m := en) (c := c) (by omega) q2 hR1 hR2 (by omega) (par.s3.same fun k k1 k2 => p2.out k (by omega)) (par.s4.same fun k k1 k2 => p2.out k (by omega))
                rw [p2.size, p1.size] at hm2
                refine hm2.mono ?_
                rintro v H4 ⟨l3, q3, p3, so3⟩
                try simp
                exact ⟨l3, q3, p1.trans ((p2.mono (by omega) (by omega)).trans (p3.mono (by omega) (by omega))), merged par.hd p2 so2 p3 so3⟩
              · have so3 : Srt lt l2 mid c := by
                  by_cases e : en = mid
                  · exact (e ▸ par.s4).same fun k k1 k2 => p2.out k (by omega)
                  · have : en = c := by omega
                    exact (this ▸ par.s3).same fun k k1 k2 => p2.out k (by omega)
                by_cases hR1 : mid < en
                · have hR1' : (mid : Int) < en := by omega
                  have hR2 : ¬ en < c := by omega
                  have hR2' : ¬ (en : Int) < c := by omega
                  simp [e0, e1, e2, e3, e4, i0, x18, x19, w9, hR1, hR1', hR2, hR2']
                  exact ⟨l2, q2, p1.trans (p2.mono (by omega) (by omega)), merged par.hd p2 so2 (PR.refl _ _ _) so3⟩
                · have hR1' : ¬ (mid : Int) < en := by omega
                  simp [e0, e1, e2, e3, e4, i0, x18, x19, w9, hR1, hR1']
                  exact ⟨l2, q2, p1.trans (p2.mono (by omega) (by omega)), merged par.hd p2 so2 (PR.refl _ _ _) so3⟩
            · have hL1' : ¬ (a : Int) < st := by omega
              simp [e0, e1, e2, e3, e4, i0, x18, x19, w9, hL1, hL1']
              by_cases hR : mid < en ∧ en < c
              · obtain ⟨hR1, hR2⟩ := hR
                have hR1' : (mid : Int) < en := by omega
                have hR2' : (en : Int) < c := by omega
                simp [e0, e1, e2, e3, e4, i0, x18, x19, w9, hR1, hR1', hR2, hR2']
                have z1 := p1.size; have z2 := p2.size
                have hm2 := merge_t hs f (H := H) (l := l2) (a := mid) (m := en) (c := c) (by omega) q2 hR1 hR2 (by omega) (par.s3.same fun k k1 k2 => p2.out k (by omega)) (par.s4.same fun k k1 k2 => p2.out k (by omega))
                rw [p2.size, p1.size] at hm2
                refine hm2.mono ?_
                rintro v H4 ⟨l3, q3, p3, so3⟩
                try simp
                exact ⟨l3, q3, p1.trans ((p2.mono (by omega) (by omega)).trans (p3.mono (by omega) (by omega))), merged par.hd p2 so2 p3 so3⟩
              · have so3 : Srt lt l2 mid c := by
                  by_cases e : en = mid
                  · exact (e ▸ par.s4).same fun k k1 k2 => p2.out k (by omega)
                  · have : en = c := by omega
                    exact (this ▸ par.s3).same fun k k1 k2 => p2.out k (by omega)
                by_cases hR1 : mid < en
                · have hR1' : (mid : Int) < en := by omega
                  have hR2 : ¬ en < c := by omega
                  have hR2' : ¬ (en : Int) < c := by omega
                  simp [e0, e1, e2, e3, e4, i0, x18, x19, w9, hR1, hR1', hR2, hR2']
                  exact ⟨l2, q2, p1.trans (p2.mono (by omega) (by omega)), merged par.hd p2 so2 (PR.refl _ _ _) so3⟩
                · have hR1' : ¬ (mid : Int) < en := by omega
                  simp [e0, e1, e2, e3, e4, i0, x18, x19, w9, hR1, hR1']
                  exact ⟨l2, q2, p1.trans (p2.mono (by omega) (by omega)), merged par.hd p2 so2 (PR.refl _ _ _) so3⟩
        · have hr1' : ¬ (st : Int) < m := by omega
          simp [e0, e1, e2, e3, e4, i0, x18, x19, w9, hr1, hr1']
          by_cases hL : a < st ∧ st < mid
          · obtain ⟨hL1, hL2⟩ := hL
            have hL1' : (a : Int) < st := by omega
            have hL2' : (st : Int) < mid := by omega
            simp [e0, e1, e2, e3, e4, i0, x18, x19, w9, hL1, hL1', hL2, hL2']
            have z1 := p1.size
            have hm1 := merge_t hs f (H := H) (l := l1) (a := a) (m := st) (c := mid) (by omega) q1 hL1 hL2 (by omega) par.s1 par.s2
            rw [p1.size] at hm1
            refine hm1.mono ?_
            rintro v H3 ⟨l2, q2, p2, so2⟩
            try simp
            by_cases hR : mid < en ∧ en < c
            · obtain ⟨hR1, hR2⟩ := hR
              have hR1' : (mid : Int) < en := by omega
              have hR2' : (en : Int) < c := by omega
              simp [e0, e1, e2, e3, e4, i0, x18, x19, w9, hR1, hR1', hR2, hR2']
              have z1 := p1.size; have z2 := p2.size
              have hm2 := merge_t hs f (H := H3) (l := l2) (a := mid) (m := en) (c := c) (by omega) q2 hR1 hR2 (by omega) (par.s3.same fun k k1 k2 => p2.out k (by omega)) (par.s4.same fun k k1 k2 => p2.out k (by omega))
              rw [p2.size, p1.size] at hm2
              refine hm2.mono ?_
              rintro v H4 ⟨l3, q3, p3, so3⟩
              try simp
              exact ⟨l3, q3, p1.trans ((p2.mono (by omega) (by omega)).trans (p3.mono (by omega) (by omega))), merged par.hd p2 so2 p3 so3⟩
            · have so3 : Srt lt l2 mid c := by
                by_cases e : en = mid
                · exact (e ▸ par.s4).same fun k k1 k2 => p2.out k (by omega)
                · have : en = c := by omega
                  exact (this ▸ par.s3).same fun k k1 k2 => p2.out k (by omega)
              by_cases hR1 : mid < en
              · have hR1' : (mid : Int) < en := by omega
                have hR2 : ¬ en < c := by omega
                have hR2' : ¬ (en : Int) < c := by omega
                simp [e0, e1, e2, e3, e4, i0, x18, x19, w9, hR1, hR1', hR2, hR2']
                exact ⟨l2, q2, p1.trans (p2.mono (by omega) (by omega)), merged par.hd p2 so2 (PR.refl _ _ _) so3⟩
              · have hR1' : ¬ (mid : Int) < en := by omega
                simp [e0, e1, e2, e3, e4, i0, x18, x19, w9, hR1, hR1']
                exact ⟨l2, q2, p1.trans (p2.mono (by omega) (by omega)), merged par.hd p2 so2 (PR.refl _ _ _) so3⟩
          · obtain ⟨l2, hl2⟩ : ∃ l2, l2 = l1 := ⟨_, rfl⟩
            have q2 : DQ good b H0 H l2 := hl2 ▸ q1
            have p2 : PR l1 l2 a mid := hl2 ▸ PR.refl _ _ _
            have so2 : Srt lt l2 a mid := by
              rw [hl2]
              by_cases e : st = a
              · exact e ▸ par.s2
              · have : st = mid := by omega
                exact this ▸ par.s1
            by_cases hL1 : a < st
            · have hL1' : (a : Int) < st := by omega
              have hL2 : ¬ st < mid := by omega
              have hL2' : ¬ (st : Int) < mid := by omega
              simp [e0, e1, e2, e3, e4, i0, x18, x19, w9, hL1, hL1', hL2, hL2']
              by_cases hR : mid < en ∧ en < c
              · obtain ⟨hR1, hR2⟩ := hR
                have hR1' : (mid : Int) < en := by omega
                have hR2' : (en : Int) < c := by omega
                simp [e0, e1, e2, e3, e4, i0, x18, x19, w9, hR1, hR1', hR2, hR2']
                have z1 := p1.size; have z2 := p2.size
                have hm2 := merge_t hs f (H := H) (l := l2) (a := mid) (m := en) (c := c) (by omega) q2 hR1 hR2 (by omega) (par.s3.same fun k k1 k2 => p2.out k (by omega)) (par.s4.same fun k k1 k2 => p2.out k (by omega))
                rw [p2.size, p1.size] at hm2
                refine hm2.mono ?_
                rintro v H4 ⟨l3, q3, p3, so3⟩
                try simp
                exact ⟨l3, q3, p1.trans ((p2.mono (by omega) (by omega)).trans (p3.mono (by omega) (by omega))), merged par.hd p2 so2 p3 so3⟩
              · have so3 : Srt lt l2 mid c := by
                  by_cases e : en = mid
                  · exact (e ▸ par.s4).same fun k k1 k2 => p2.out k (by omega)
                  · have : en = c := by omega
                    exact (this ▸ par.s3).same fun k k1 k2 => p2.out k (by omega)
                by_cases hR1 : mid < en
                · have hR1' : (mid : Int) < en := by omega
                  have hR2 : ¬ en < c := by omega
                  have hR2' : ¬ (en : Int) < c := by omega
                  simp [e0, e1, e2, e3, e4, i0, x18, x19, w9, hR1, hR1', hR2, hR2']
                  exact ⟨l2, q2, p1.trans (p2.mono (by omega) (by omega)), merged par.hd p2 so2 (PR.refl _ _ _) so3⟩
                · have hR1' : ¬ (mid : Int) < en := by omega
                  simp [e0, e1, e2, e3, e4, i0, x18, x19, w9, hR1, hR1']
                  exact ⟨l2, q2, p1.trans (p2.mono (by omega) (by omega)), merged par.hd p2 so2 (PR.refl _ _ _) so3⟩
            · have hL1' : ¬ (a : Int) < st := by omega
              simp [e0, e1, e2, e3, e4, i0, x18, x19, w9, hL1, hL1']
              by_cases hR : mid < en ∧ en < c
              · obtain ⟨hR1, hR2⟩ := hR
                have hR1' : (mid : Int) < en := by omega
                have hR2' : (en : Int) < c := by omega
                simp [e0, e1, e2, e3, e4, i0, x18, x19, w9, hR1, hR1', hR2, hR2']
                have z1 := p1.size; have z2 := p2.size
                have hm2 := merge_t hs f (H := H) (l := l2) (a := mid) (m := en) (c := c) (by omega) q2 hR1 hR2 (by omega) (par.s3.same fun k k1 k2 => p2.out k (by omega)) (par.s4.same fun k k1 k2 => p2.out k (by omega))
                rw [p2.size, p1.size] at hm2
                refine hm2.mono ?_
                rintro v H4 ⟨l3, q3, p3, so3⟩
                try simp
                exact ⟨l3, q3, p1.trans ((p2.mono (by omega) (by omega)).trans (p3.mono (by omega) (by omega))), merged par.hd p2 so2 p3 so3⟩
              · have so3 : Srt lt l2 mid c := by
                  by_cases e : en = mid
                  · exact (e ▸ par.s4).same fun k k1 k2 => p2.out k (by omega)
                  · have : en = c := by omega
                    exact (this ▸ par.s3).same fun k k1 k2 => p2.out k (by omega)
                by_cases hR1 : mid < en
                · have hR1' : (mid : Int) < en := by omega
                  have hR2 : ¬ en < c := by omega
                  have hR2' : ¬ (en : Int) < c := by omega
                  simp [e0, e1, e2, e3, e4, i0, x18, x19, w9, hR1, hR1', hR2, hR2']
                  exact ⟨l2, q2, p1.trans (p2.mono (by omega) (by omega)), merged par.hd p2 so2 (PR.refl _ _ _) so3⟩
                · have hR1' : ¬ (mid : Int) < en := by omega
                  simp [e0, e1, e2, e3, e4, i0, x18, x19, w9, hR1, hR1']
                  exact ⟨l2, q2, p1.trans (p2.mono (by omega) (by omega)), merged par.hd p2 so2 (PR.refl _ _ _) so3⟩
end
end Go.Proofs.Ytlboioplemlneaa.K
/- The library's stable sort, walked: blocks, then runs twice as long. -/
set_option maxRecDepth 100000
set_option maxHeartbeats 4000000
set_option linter.unusedVariables false
set_option linter.unusedSimpArgs false
set_option linter.unusedSectionVars false
namespace Go.Proofs.Ytlboioplemlneaa.K
open Go Go.Proofs
section
variable {lt : Nat → Nat → Bool} {good : Nat → Prop} {fc : Value} {b cc : Nat} {H0 H : Heap} {l l' : Array Nat}
/-- runs of s each are sorted, ahead of a -/
def BK (lt : Nat → Nat → Bool) (l : Array Nat) (s a : Nat) : Prop := ∀ x, s ∣ x → x < a → Srt lt l x (x + s)
/-- and from a on -/
def BL (lt : Nat → Nat → Bool) (l : Array Nat) (s n a : Nat) : Prop := ∀ x, s ∣ x → a ≤ x → Srt lt l x (min (x + s) n)
theorem dvd_next {s x a : Nat} (h0 : 0 < s) (hx : s ∣ x) (ha : s ∣ a) (h : x < a) : x + s ≤ a := by
  have := Nat.le_of_dvd (by omega) (Nat.dvd_sub ha hx); omega
theorem dvd_same {s x a : Nat} (h0 : 0 < s) (hx : s ∣ x) (ha : s ∣ a) (h : a ≤ x) (h2 : x < a + s) : x = a := by
  by_cases e : a < x
  · have := dvd_next h0 ha hx e; omega
  · omega
theorem BK.nil {s : Nat} : BK lt l s 0 := fun x _ h => by omega
theorem BK.step {s a : Nat} (h0 : 0 < s) (h : BK lt l s a) (ha : s ∣ a) (hp : PR l l' a (a + s)) (hs : Srt lt l' a (a + s)) : BK lt l' s (a + s) := fun x hx hlt => by
  by_cases e : x < a
  · have := dvd_next h0 hx ha e
    exact (h x hx e).same fun k k1 k2 => hp.out k (by omega)
  · rw [dvd_same h0 hx ha (by omega) hlt]; exact hs
theorem BK.last {s a n : Nat} (h0 : 0 < s) (h : BK lt l s a) (ha : s ∣ a) (hp : PR l l' a n) (hs : Srt lt l' a n) (han : a ≤ n) (hn : n < a + s) : BL lt l' s n 0 := fun x hx _ => by
  by_cases e : x < a
  · have := dvd_next h0 hx ha e
    rw [Nat.min_eq_left (by omega)]
    exact (h x hx e).same fun k k1 k2 => hp.out k (by omega)
  · by_cases e2 : x < a + s
    · rw [dvd_same h0 hx ha (by omega) e2, Nat.min_eq_right (by omega)]; exact hs
    · exact Srt.small (by omega)
theorem BL.keep {s n a c a' : Nat} (h : BL lt l s n a) (hp : PR l l' a c) (hc : c ≤ a') (ha : a ≤ a') : BL lt l' s n a' := fun x hx h1 => (h x hx (by omega)).same fun k k1 k2 => hp.out k (by omega)
structure St1 (lt : Nat → Nat → Bool) (good : Nat → Prop) (b : Nat) (H0 : Heap) (l : Array Nat) (cc : Nat) (fc : Value) (d : Nat) (e : Fe) (H : Heap) (l' : Array Nat) (a : Nat) : Prop where
  hd : d = l.size + 20 - a
  ha : a ≤ l.size
  dv : 20 ∣ a
  q : DQ good b H0 H l'
  pr : PR l l' 0 l.size
  bk : BK lt l' 20 a
  e0 : e 0 = .slice (some ⟨b, 0, none⟩) l.size cc
  e1 : e 1 = .int .i64 l.size
  e2 : e 2 = fc
  e6 : e 6 = .int .i64 20
  e7 : e 7 = .int .i64 a
  e8 : e 8 = .int .i64 ((a + 20 : Nat) : Int)
structure St2 (lt : Nat → Nat → Bool) (good : Nat → Prop) (b : Nat) (H0 : Heap) (l : Array Nat) (cc s : Nat) (fc : Value) (d : Nat) (e : Fe) (H : Heap) (l' : Array Nat) (a : Nat) : Prop where
  hd : d = l.size + 2 * s - a
  ha : a ≤ l.size
  dv : 2 * s ∣ a
  q : DQ good b H0 H l'
  pr : PR l l' 0 l.size
  bk : BK lt l' (2 * s) a
  bl : BL lt l' s l.size a
  e0 : e 0 = .slice (some ⟨b, 0, none⟩) l.size cc
  e1 : e 1 = .int .i64 l.size
  e2 : e 2 = fc
  e6 : e 6 = .int .i64 s
  e7 : e 7 = .int .i64 a
  e8 : e 8 = .int .i64 ((a + 2 * s : Nat) : Int)
theorem pass_t {e : Fe} {Q : Kx} {s : Nat} (hs : SrtQ lt good fc b H0) (h0 : 0 < s) (hsn : s < l.size) (hD : DQ good b H0 H l) (hbl : BL lt l s l.size 0)
    (h : St2 lt good b H0 l cc s fc (l.size + 2 * s) e H l 0)
    (hQ : ∀ e H l' a, St2 lt good b H0 l cc s fc 0 e H l' a ∨ (∃ d, St2 lt good b H0 l cc s fc d e H l' a ∧ l.size < a + 2 * s) → Q (.exit 4) e H) : WL S b136_2 e H Q := by
  refine l136_2 S (fun d e H' => ∃ l' a, St2 lt good b H0 l cc s fc d e H' l' a) (l.size + 2 * s) ⟨l, 0, h⟩ ?_
  rintro d e H1 ⟨l1, a, hst⟩
  obtain ⟨rfl, ha, dv, hq, hp, hbk, hbl, e0, e1, e2, e6, e7, e8⟩ := hst
  have hsz := hp.size
  have hsm := hq.sz
  obtain ⟨m, hm⟩ : ∃ m, m = a + s := ⟨_, rfl⟩
  obtain ⟨c, hc⟩ : ∃ c, c = a + 2 * s := ⟨_, rfl⟩
  obtain ⟨s2, hs2⟩ : ∃ s2, s2 = 2 * s := ⟨_, rfl⟩
  obtain ⟨c2, hc2⟩ : ∃ c2, c2 = c + s2 := ⟨_, rfl⟩
  rw [← hc] at e8
  have w1 : IntKind.i64.wrap ((a : Int) + s) = (m : Int) := by rw [wi (by omega) (by omega)]; omega
  have w2 : IntKind.i64.wrap (2 * (s : Int)) = (s2 : Int) := by rw [wi (by omega) (by omega)]; omega
  have w3 : IntKind.i64.wrap ((c : Int) + s2) = (c2 : Int) := by rw [wi (by omega) (by omega)]; omega
  by_cases hcn : c ≤ l.size
  · have hcn' : (c : Int) ≤ l.size := by omega
    simp [s136_2, e0, e1, e2, e6, e7, e8, hcn, hcn', w1]
    have hds : s ∣ a := Nat.dvd_trans (Nat.dvd_mul_left _ _) dv
    have r1 := hbl a hds (Nat.le_refl _)
    rw [Nat.min_eq_left (by omega), ← hm] at r1
    have r2 := hbl m (hm ▸ Nat.dvd_add hds (Nat.dvd_refl _)) (by omega)
    rw [Nat.min_eq_left (by omega), show m + s = c by omega] at r2
    have hmg := merge_t (cc := cc) hs (c - a) (H := H1) (l := l1) (a := a) (m := m) (c := c) (Nat.le_refl _) hq (by omega) (by omega) (by omega) r1 r2
    rw [hsz] at hmg
    refine hmg.mono ?_
    rintro v H2 ⟨l2, q2, p2, so2⟩
    simp [e0, e1, e2, e6, e7, e8, w2, w3]
    refine ⟨l.size + 2 * s - c, by omega, l2, c, ⟨rfl, hcn, ?_, q2, hp.trans (p2.mono (by omega) (by omega)), ?_, hbl.keep p2 (Nat.le_refl _) (by omega), by simp [e0], by simp [e1], by simp [e2], by simp [e6], by simp, by simp; omega⟩⟩
    · rw [hc]; exact Nat.dvd_add dv (Nat.dvd_refl _)
    · rw [hc]; exact hbk.step (by omega) dv (by rw [← hc]; exact p2) (by rw [← hc]; exact so2)
  · have hcn' : ¬ (c : Int) ≤ l.size := by omega
    simp [s136_2, e0, e1, e2, e6, e7, e8, hcn, hcn', w1]
    exact hQ _ _ l1 a (.inr ⟨_, ⟨rfl, ha, dv, hq, hp, hbk, hbl, by simp [e0], by simp [e1], by simp [e2], by simp [e6], by simp [e7], by simp [e8, ← hc]⟩, by omega⟩)
structure St3 (lt : Nat → Nat → Bool) (good : Nat → Prop) (b : Nat) (H0 : Heap) (l : Array Nat) (cc : Nat) (fc : Value) (d : Nat) (e : Fe) (H : Heap) (l' : Array Nat) (s : Nat) : Prop where
  hd : d = l.size - s
  hs : 0 < s
  hb : s ≤ 2000000
  q : DQ good b H0 H l'
  pr : PR l l' 0 l.size
  bl : BL lt l' s l.size 0
  e0 : e 0 = .slice (some ⟨b, 0, none⟩) l.size cc
  e1 : e 1 = .int .i64 l.size
  e2 : e 2 = fc
  e6 : e 6 = .int .i64 s
theorem stable_t (hs : SrtQ lt good fc b H0) (hD : DQ good b H0 H l) :
    Wf S 136 [.slice (some ⟨b, 0, none⟩) l.size cc, .int .i64 l.size, fc] H fun _ H' => ∃ l', DQ good b H0 H' l' ∧ PR l l' 0 l.size ∧ Srt lt l' 0 l.size := by
  have hsm0 := hD.sz
  refine w136 rfl rfl _ _ _ ?_
  simp [s136]
  refine l136_1 S (fun d e H' => ∃ l' a, St1 lt good b H0 l cc fc d e H' l' a) (l.size + 20) ⟨l, 0, ⟨by omega, by omega, Nat.dvd_zero _, hD, PR.refl _ _ _, BK.nil, by simp, by simp, by simp, by simp, by simp, by simp⟩⟩ ?_
  rintro d e H1 ⟨l1, a, rfl, ha, dv, hq, hp, hbk, e0, e1, e2, e6, e7, e8⟩
  have hsz := hp.size
  have hsm := hq.sz
  obtain ⟨c, hc⟩ : ∃ c, c = a + 20 := ⟨_, rfl⟩
  rw [← hc] at e8
  by_cases hcn : c ≤ l.size
  · have hcn' : (c : Int) ≤ l.size := by omega
    have w1 : IntKind.i64.wrap ((c : Int) + 20) = ((c + 20 : Nat) : Int) := by rw [wi (by omega) (by omega)]; omega
    simp [s136_1, e0, e1, e2, e6, e7, e8, hcn, hcn']
    have hi := ins_t (cc := cc) (fc := fc) (a := a) (n := c) hs hq (by omega) (by omega)
    rw [hsz] at hi
    refine hi.mono ?_
    rintro v H2 ⟨l2, q2, p2, so2⟩
    simp [e0, e1, e2, e6, e7, e8, w1]
    refine ⟨l.size + 20 - c, by omega, l2, c, ⟨rfl, hcn, ?_, q2, hp.trans (p2.mono (by omega) (by omega)), ?_, by simp [e0], by simp [e1], by simp [e2], by simp [e6], by simp, by simp⟩⟩
    · rw [hc]; exact Nat.dvd_add dv (Nat.dvd_refl _)
    · rw [hc]; exact hbk.step (by omega) dv (by rw [← hc]; exact p2) (by rw [← hc]; exact so2)
  · have hcn' : ¬ (c : Int) ≤ l.size := by omega
    simp [s136_1, e0, e1, e2, e6, e7, e8, hcn, hcn']
    have hi := ins_t (cc := cc) (fc := fc) (a := a) (n := l.size) hs hq (by omega) (by omega)
    rw [hsz] at hi
    refine hi.mono ?_
    rintro v H2 ⟨l2, q2, p2, so2⟩
    have hbl2 := hbk.last (by omega) dv p2 so2 ha (by omega)
    try simp
    refine l136_0 S (fun d e H' => ∃ l' s, St3 lt good b H0 l cc fc d e H' l' s) (l.size - 20) ⟨l2, 20, ⟨rfl, by omega, by omega, q2, hp.trans (p2.mono (by omega) (by omega)), hbl2, by simp [e0], by simp [e1], by simp [e2], by simp [e6]⟩⟩ ?_
    clear hbl2 q2 p2 so2 e0 e1 e2 e6 e7 e8 hi hbk hq hp
    rintro d e H3 ⟨l3, s, rfl, h0, hsb, hq, hp, hbl, e0, e1, e2, e6⟩
    have hsz3 := hp.size
    by_cases hsn : s < l.size
    · have hsn' : (s : Int) < l.size := by omega
      obtain ⟨s2, hs2⟩ : ∃ s2, s2 = 2 * s := ⟨_, rfl⟩
      have w2 : IntKind.i64.wrap (2 * (s : Int)) = (s2 : Int) := by rw [wi (by omega) (by omega)]; omega
      have w3 : IntKind.i64.wrap ((s : Int) * 2) = (s2 : Int) := by rw [wi (by omega) (by omega)]; omega
      simp [s136_0, e0, e1, e2, e6, hsn, hsn', w2]
      refine pass_t (l := l3) (cc := cc) (s := s) (fc := fc) hs h0 (by omega) hq (by rw [hsz3]; exact hbl) ⟨rfl, by omega, Nat.dvd_zero _, hq, PR.refl _ _ _, BK.nil, by rw [hsz3]; exact hbl, by simp [e0, hsz3], by simp [e1, hsz3], by simp [e2], by simp [e6], by simp, by simp [hs2]⟩ ?_
      rintro e' H4 l4 a4 h4
      obtain ⟨d4, h4, hlast⟩ : ∃ d, St2 lt good b H0 l3 cc s fc d e' H4 l4 a4 ∧ l3.size < a4 + 2 * s := by
        rcases h4 with h4 | h4
        · exact ⟨0, h4, by have := h4.hd; have := h4.ha; omega⟩
        · exact h4
      obtain ⟨rfl, ha4, dv4, hq4, hp4, hbk4, hbl4, f0, f1, f2, f6, f7, f8⟩ := h4
      have hsz4 := hp4.size
      obtain ⟨m, hm⟩ : ∃ m, m = a4 + s := ⟨_, rfl⟩
      have w4 : IntKind.i64.wrap ((a4 : Int) + s) = (m : Int) := by rw [wi (by omega) (by omega)]; omega
      have hds : s ∣ a4 := Nat.dvd_trans (Nat.dvd_mul_left _ _) dv4
      have r1 := hbl4 a4 hds (Nat.le_refl _)
      by_cases hmn : m < l.size
      · have hmn' : (m : Int) < l.size := by omega
        rw [Nat.min_eq_left (by omega), ← hm] at r1
        have r2 := hbl4 m (hm ▸ Nat.dvd_add hds (Nat.dvd_refl _)) (by omega)
        rw [Nat.min_eq_right (by omega)] at r2
        simp [f0, f1, f2, f6, f7, w4, hsz3, hmn, hmn']
        have hmg := merge_t (cc := cc) hs (l3.size - a4) (H := H4) (l := l4) (a := a4) (m := m) (c := l3.size) (Nat.le_refl _) hq4 (by omega) (by omega) (by omega) r1 r2
        rw [hsz4, hsz3] at hmg
        refine hmg.mono ?_
        rintro v H5 ⟨l5, q5, p5, so5⟩
        simp [f0, f1, f2, f6, w3]
        have hf := hbk4.last (by omega) dv4 (n := l3.size) (by rw [hsz3]; exact p5) (by rw [hsz3]; exact so5) ha4 hlast
        rw [hsz3, ← hs2] at hf
        exact ⟨l.size - s2, by omega, l5, s2, ⟨rfl, by omega, by omega, q5, hp.trans (by rw [← hsz3]; exact hp4.trans ((by rw [hsz3]; exact p5 : PR l4 l5 a4 l3.size).mono (by omega) (by omega))), hf, by simp [f0, hsz3], by simp [f1, hsz3], by simp [f2], by simp⟩⟩
      · have hmn' : ¬ (m : Int) < l.size := by omega
        rw [Nat.min_eq_right (by omega)] at r1
        simp [f0, f1, f2, f6, f7, w4, hsz3, hmn, hmn', w3]
        have hf := hbk4.last (by omega) dv4 (n := l3.size) (PR.refl _ _ _) r1 ha4 hlast
        rw [hsz3, ← hs2] at hf
        exact ⟨l.size - s2, by omega, l4, s2, ⟨rfl, by omega, by omega, hq4, hp.trans (by rw [← hsz3]; exact hp4), hf, by simp [f0, hsz3], by simp [f1, hsz3], by simp [f2], by simp⟩⟩
    · have hsn' : ¬ (s : Int) < l.size := by omega
      simp [s136_0, e0, e1, e2, e6, hsn, hsn']
      have r := hbl 0 (Nat.dvd_zero _) (Nat.le_refl _)
      rw [Nat.min_eq_right (by omega)] at r
      exact ⟨l3, hq, hp, r⟩
theorem sortStable_t (hs : SrtQ lt good fc b H0) (hD : DQ good b H0 H l) :
    Wf S 122 [.slice (some ⟨b, 0, none⟩) l.size cc, fc] H fun _ H' => ∃ l', DQ good b H0 H' l' ∧ PR l l' 0 l.size ∧ Srt lt l' 0 l.size := by
  refine w122 rfl rfl _ _ ?_
  simp [s122]
  refine (stable_t hs hD).mono ?_
  rintro v H1 ⟨l1, h⟩
  try simp
  exact ⟨l1, h⟩
end
end Go.Proofs.Ytlboioplemlneaa.K
