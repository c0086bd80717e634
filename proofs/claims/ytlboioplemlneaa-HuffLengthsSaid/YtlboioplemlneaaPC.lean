/- The least cost of counts, plainly. -/
import Derived.Test.YtlboioplemlneaaPB
import Derived.Test.YtlboioplemlneaaPA
set_option maxRecDepth 100000
set_option maxHeartbeats 1000000
set_option linter.unusedVariables false
set_option linter.unusedSimpArgs false
namespace Go.Proofs.Ytlboioplemlneaa.K
open Go Go.Proofs
/-- the least cost of counts: one symbol's own count, else Huffman's sums -/
def BestIs (c : List Int) (B : Nat) : Prop := (∃ s, lvs c c.length = [(s, B)]) ∨ (2 ≤ (lvs c c.length).length ∧ Hc ((lvs c c.length).map (·.2)) B)
theorem BestIs.uniq {c : List Int} {B B' : Nat} (h : BestIs c B) (h' : BestIs c B') : B = B' := by
  rcases h with ⟨s, h⟩ | ⟨h1, h2⟩ <;> rcases h' with ⟨s', h'⟩ | ⟨h1', h2'⟩
  · rw [h] at h'; simp at h'; exact h'.2
  · rw [h] at h1'; simp at h1'
  · rw [h'] at h1; simp at h1
  · exact h2'.uniq h2 (List.Perm.refl _)
theorem T.lv_len : ∀ t : T, 1 ≤ t.lv.length
  | .leaf _ _ => by simp [T.lv]
  | .two _ l r => by have := T.lv_len l; simp only [T.lv, List.length_append]; omega
theorem best_leaf {c : List Int} {w s : Nat} (h : (T.leaf w s).lv.Perm (lvs c c.length)) : BestIs c w := .inl ⟨s, List.perm_singleton.1 h.symm⟩
theorem best_two {c : List Int} {o : Nat} {l r : T} {B : Nat} (h : (T.two o l r).lv.Perm (lvs c c.length)) (hc : Hc ((lvs c c.length).map (·.2)) B) : BestIs c B := .inr ⟨by
  have h1 := h.length_eq
  have := T.lv_len l; have := T.lv_len r
  simp only [T.lv, List.length_append] at h1; omega, hc⟩
theorem T.ht_dp : ∀ (t : T) (d : Nat), ∃ x ∈ t.dp d, x.2.2 = d + t.ht
  | .leaf w s, d => ⟨(s, w, d), by simp [T.dp], by simp [T.ht]⟩
  | .two _ l r, d => by
    by_cases h : l.ht ≤ r.ht
    · obtain ⟨x, hx, e⟩ := T.ht_dp r (d + 1)
      exact ⟨x, by simp [T.dp, hx], by simp only [T.ht]; omega⟩
    · obtain ⟨x, hx, e⟩ := T.ht_dp l (d + 1)
      exact ⟨x, by simp [T.dp, hx], by simp only [T.ht]; omega⟩
end Go.Proofs.Ytlboioplemlneaa.K
/- huff.Best: the least cost, by the program's tree. -/
set_option maxRecDepth 100000
set_option maxHeartbeats 4000000
set_option linter.unusedVariables false
set_option linter.unusedSimpArgs false
namespace Go.Proofs.Ytlboioplemlneaa.K
open Go Go.Proofs
section
variable {H : Heap} {a : Option Addr} {cc : Nat} {c : List Int}
theorem hBest_t (hl : Iv H a c) (hr : cright c = true) :
    Wf S 40 [.slice a c.length cc] H fun v H' => Kp H.next H H' ∧ ∃ B : Nat, v = .int .i64 B ∧ BestIs c B := by
  have hlen := cright_len hr
  have hbd := cright_bd hr
  refine w40 rfl rfl _ ?_
  simp [s40]
  refine (cRight_t hl (by omega)).mono ?_
  rintro v H1 ⟨rfl, rfl⟩
  rw [hr]
  try simp
  refine (tree_t hl hlen hbd (cright_some hr)).mono ?_
  rintro v H2 ⟨hk2, x, rfl, hx2, hsib, hpos, hlv, hhc⟩
  obtain ⟨bx, t⟩ := x
  simp only at hlv hhc hsib hpos
  cases t with
  | leaf w s =>
    have hx2 : H2.get bx = .cells [.int .i64 w, .int .i64 s, .int .i64 s, .pointer none, .pointer none] 124 true := hx2
    simp [ptrN, addOff, hx2]
    exact ⟨hk2, w, rfl, best_leaf hlv⟩
  | two o tl tr =>
    obtain ⟨bl, br, hb, hnl, hnr⟩ := hx2
    simp [ptrN, addOff, hb]
    exact ⟨hk2, _, rfl, best_two hlv hhc⟩
theorem hBest_no (hl : Iv H a c) (hm : (c.length : Int) ≤ 9223372036854775807) (hr : cright c = false) :
    Wf S 40 [.slice a c.length cc] H fun v H' => H' = H ∧ v = .int .i64 0 := by
  refine w40 rfl rfl _ ?_
  simp [s40]
  refine (cRight_t hl hm).mono ?_
  rintro v H1 ⟨rfl, rfl⟩
  rw [hr]
  simp
end
end Go.Proofs.Ytlboioplemlneaa.K
/- ref09.Best: the least cost, by the document. -/
set_option maxRecDepth 100000
set_option maxHeartbeats 4000000
set_option linter.unusedVariables false
set_option linter.unusedSimpArgs false
namespace Go.Proofs.Ytlboioplemlneaa.K
open Go Go.Proofs
section
variable {H : Heap} {a : Option Addr} {cc : Nat} {c : List Int}
/-- the pass of bubbles: numbers at b -/
structure BuI (HB : Heap) (b : Nat) (L0 : List Nat) (k : Nat) (e0 : Fe) (d : Nat) (e : Fe) (H : Heap) (i : Nat) (L : List Nat) : Prop where
  h2 : d = i - k
  ki : k ≤ i
  il : i < L0.length
  bub : Bub L0 L k i
  nx : H.next = HB.next
  keep : ∀ j, j ≠ b → H.get j = HB.get j
  g : H.get b = .cells (nts L) 3 true
  e3 : e 3 = .slice (some ⟨b, 0, none⟩) L0.length capx
  e6 : e 6 = .int .i64 k
  e7 : e 7 = .int .i64 i
  eo : e 0 = e0 0 ∧ e 5 = e0 5
theorem bub_t {HB : Heap} {e0 : Fe} {Q : Kx} {b k : Nat} {L0 : List Nat} (hk : k < L0.length) (hL : (L0.length : Int) ≤ 1000000) (hB : BuI HB b L0 k e0 (L0.length - 1 - k) e0 HB (L0.length - 1) L0)
    (hQ : ∀ e H L, Bub L0 L k k → H.next = HB.next → (∀ j, j ≠ b → H.get j = HB.get j) → H.get b = .cells (nts L) 3 true → e 3 = .slice (some ⟨b, 0, none⟩) L0.length capx → e 6 = .int .i64 k → (e 0 = e0 0 ∧ e 5 = e0 5) → Q (.exit 6) e H) :
    WL S b42_3 e0 HB Q := by
  refine l42_3 S (fun d e H' => ∃ i L, BuI HB b L0 k e0 d e H' i L) (L0.length - 1 - k) ⟨_, _, hB⟩ ?_
  rintro d e H1 ⟨i, L, rfl, hki, hil, hb, hn, hkeep, hg, e3, e6, e7, eo⟩
  have hll := hb.p.length_eq
  by_cases h3 : k < i
  · obtain ⟨m, hm⟩ : ∃ m, m = i - 1 := ⟨_, rfl⟩
    have w1 : IntKind.i64.wrap ((i : Int) - 1) = (m : Int) := by rw [wi (by omega) (by omega)]; omega
    have h3' : (k : Int) < i := by omega
    have gi := nts_get (nx_get (L := L) (i := i) (by omega))
    have gm := nts_get (nx_get (L := L) (i := m) (by omega))
    have hil' : (i : Int) < L0.length := by omega
    have hml' : (m : Int) < L0.length := by omega
    have hml : m < L0.length := by omega
    by_cases h4 : nx L i < nx L (i - 1)
    · rw [← hm] at h4
      have h4' : (nx L i : Int) < nx L m := by omega
      have hlt := lt_cells hg
      have s1 : kSt H1 (.pointer (some ⟨b, i, none⟩)) (.int .i64 (nx L m : Int)) = some (H1.put b (.cells (nts (L.set i (nx L m))) 3 true)) := by
        simp only [kSt, hg]
        rw [if_pos (by simp [oneC, nts_len]; omega), nts_set]
      have s2 : kSt (H1.put b (.cells (nts (L.set i (nx L m))) 3 true)) (.pointer (some ⟨b, m, none⟩)) (.int .i64 (nx L i : Int)) = some (H1.put b (.cells (nts (sw1 L i)) 3 true)) := by
        simp only [kSt, get_put_eq hlt]
        rw [if_pos (by simp [oneC, nts_len]; omega), nts_set, put_put]
        unfold sw1; rw [← hm]
      simp [s42_3, e3, e6, e7, h3, h3', hil, hil', addOff, hg, gi, w1, hml, hml', gm, h4, h4', s1, s2]
      refine ⟨i - 1 - k, by omega, i - 1, sw1 L i, rfl, by omega, by omega, hb.swap h3 (by omega) (by rw [← hm]; exact h4), by rw [next_put]; exact hn, fun j hj => (get_put_ne hj).trans (hkeep j hj), get_put_eq hlt, by simp [e3], by simp [e6], by simp [← hm], by simpa using eo⟩
    · rw [← hm] at h4
      have h4' : ¬ (nx L i : Int) < nx L m := by omega
      simp [s42_3, e3, e6, e7, h3, h3', hil, hil', addOff, hg, gi, w1, hml, hml', gm, h4, h4']
      refine ⟨i - 1 - k, by omega, i - 1, L, rfl, by omega, by omega, hb.keep h3 (by omega) (by rw [← hm]; exact h4), hn, hkeep, hg, by simp [e3], by simp [e6], by simp [← hm], by simpa using eo⟩
  · have h5 : i = k := by omega
    subst h5
    simp [s42_3, e6, e7]
    exact hQ _ _ L hb hn hkeep hg (by simp [e3]) (by simp [e6]) (by simpa using eo)
theorem sum_ge {L : List Nat} {x : Nat} (h : x ∈ L) : x ≤ L.sum := by
  induction L with
  | nil => simp at h
  | cons y L ih =>
    rcases List.mem_cons.1 h with rfl | h
    · simp
    · have := ih h; simp; omega
theorem nx_mem {L : List Nat} {i : Nat} (h : i < L.length) : nx L i ∈ L := by
  have := nx_get h
  exact List.mem_of_getElem? this
/-- two lightest at a time -/
structure BeI (H0 : Heap) (L0 : List Nat) (a0 : Value) (d : Nat) (e : Fe) (H : Heap) (b : Nat) (L : List Nat) (k ic : Nat) : Prop where
  h2 : d = L.length
  pos : 0 < L.length
  hk : k + L.length = L0.length
  kp : Kp H0.next H0 H
  hb : H0.next ≤ b
  g : H.get b = .cells (nts L) 3 true
  sm : L.sum = L0.sum
  hib : ic ≤ k * L0.sum
  hc : ∀ c, Hc L c → Hc L0 (ic + c)
  e0 : e 0 = a0
  e3 : e 3 = .slice (some ⟨b, 0, none⟩) L.length capx
  e5 : e 5 = .int .i64 ic
theorem bestLoop_t {H0 H : Heap} {e : Fe} {Q : Kx} {L0 : List Nat} {a0 : Value} {b : Nat} (hl0 : L0.length ≤ 256) (hs0 : L0.sum ≤ 268435456) (hB : BeI H0 L0 a0 L0.length e H b L0 0 0)
    (hQ : ∀ e H B, Hc L0 B → Kp H0.next H0 H → e 5 = .int .i64 (B : Int) → Q (.exit 2) e H) : WL S b42_0 e H Q := by
  refine l42_0 S (fun d e H' => ∃ b L k ic, BeI H0 L0 a0 d e H' b L k ic) L0.length ⟨_, _, _, _, hB⟩ ?_
  rintro d e H1 ⟨b, L, k, ic, rfl, hpos, hk, hkp, hb, hg, hsm, hib, hc, e0, e3, e5⟩
  by_cases h3 : 1 < L.length
  · have h3' : (1 : Int) < L.length := by omega
    have w1 : IntKind.i64.wrap ((L.length : Int) - 1) = ((L.length - 1 : Nat) : Int) := by rw [wi (by omega) (by omega)]; omega
    obtain ⟨m, hm⟩ : ∃ m, m = L.length - 1 := ⟨_, rfl⟩
    rw [← hm] at w1
    simp [s42_0, e3, e5, h3, h3']
    refine u42_2 S ?_
    simp [s42_2, e3, w1]
    refine bub_t (k := 0) (L0 := L) (b := b) (by omega) (by omega) ⟨by omega, by omega, by omega, Bub.start, rfl, fun _ _ => rfl, hg, by simp [e3], by simp, by simp [hm], ⟨rfl, rfl⟩⟩ ?_
    rintro e' H2 L2 hb2 hn2 hk2 hg2 f3 f6 ⟨f0, f5⟩
    have hl2 := hb2.p.length_eq
    have w2 : IntKind.i64.wrap ((0 : Int) + 1) = 1 := by decide
    have w2' : IntKind.i64.wrap 1 = 1 := by decide
    simp [f6, w2']
    refine u42_2 S ?_
    simp [s42_2, f3, w1]
    refine bub_t (k := 1) (L0 := L2) (b := b) (by omega) (by omega) ⟨by omega, by omega, by omega, Bub.start, rfl, fun _ _ => rfl, hg2, by simp [f3, hl2], by simp, by simp [hm, hl2], ⟨rfl, rfl⟩⟩ ?_
    rintro e'' H3 L3 hb3 hn3 hk3 hg3 q3 q6 ⟨q0, q5⟩
    have hl3 := hb3.p.length_eq
    have w3' : IntKind.i64.wrap 2 = 2 := by decide
    simp [q6, w3']
    refine u42_2 S ?_
    simp [s42_2]
    have p5 : e'' 5 = .int .i64 ic := by simpa [f5, e5] using q5
    have p0 : e'' 0 = a0 := by simpa [f0, e0] using q0
    obtain ⟨x, y, W, rfl⟩ : ∃ x y W, L3 = x :: y :: W := by
      match L3, hl3 with
      | [], h => simp at h; omega
      | [z], h => simp at h; omega
      | x :: y :: W, _ => exact ⟨x, y, W, rfl⟩
    have hpp : (x :: y :: W).Perm L := hb3.p.trans hb2.p
    have hx : ∀ z ∈ y :: W, x ≤ z := fun z hz => by
      have h0 : nx L2 0 = x := (hb3.k0 0 (by omega)).symm
      have hm2 : z ∈ L2 := hb3.p.mem_iff.1 (by simp [List.mem_cons.1 hz])
      obtain ⟨j, hj, rfl⟩ := List.mem_iff_getElem.1 hm2
      have h1 := hb2.least j (by omega) hj
      rw [h0, nx_of (List.getElem?_eq_getElem hj)] at h1
      exact h1
    have hy : ∀ z ∈ W, y ≤ z := fun z hz => by
      obtain ⟨j, hj, rfl⟩ := List.mem_iff_getElem.1 hz
      have h1 := hb3.least (j + 2) (by omega) (by simp; omega)
      have h2 : nx (x :: y :: W) (j + 2) = W[j] := nx_of (by simp)
      rw [h2] at h1
      exact h1
    have hll : L.length = W.length + 2 := by have := hpp.length_eq; simp at this; omega
    have hsW : x + (y + W.sum) = L0.sum := by
      have := hpp.sum_nat
      simp at this; omega
    obtain ⟨t, ht⟩ : ∃ t, t = x + y := ⟨_, rfl⟩
    have hicb : ic ≤ 256 * 268435456 := Nat.le_trans hib (Nat.mul_le_mul (by omega) hs0)
    have v1 : IntKind.i64.wrap ((x : Int) + (y : Int)) = (t : Int) := by rw [wi (by omega) (by omega)]; omega
    have v2 : IntKind.i64.wrap ((ic : Int) + (t : Int)) = ((ic + t : Nat) : Int) := by rw [wi (by omega) (by omega)]; omega
    have c0 : (nts (x :: y :: W))[0]? = some (.int .i64 (x : Int)) := rfl
    have c1 : (nts (x :: y :: W))[1]? = some (.int .i64 (y : Int)) := rfl
    have hlen2 : L2.length = W.length + 2 := by simp at hl3; omega
    rw [hlen2] at q3
    have hsl : ∀ {K : Kv}, run S (.slc 3 1 (.c (.slice (some ⟨b, 0, none⟩) (W.length + 2) capx)) (some (.c (.int .i64 2))) none) [] H3 K = K (.slice (some ⟨b, 2, none⟩) W.length capx) H3 := fun {K} => by
      have := run_slcF (S := S) (H := H3) (K := K) (b := b) (o := 0) (n := W.length + 2) (c := capx) (t := 3) (m := 2) (.inl rfl) hg3 (by omega)
      simpa using this
    obtain ⟨HN, hHN⟩ : ∃ HN, HN = H3.push (.cells [.int .i64 (t : Int)] 3 true) := ⟨_, rfl⟩
    have hlt := lt_cells hg3
    have hgN : HN.get b = .cells (nts (x :: y :: W)) 3 true := by rw [hHN, get_old hlt]; exact hg3
    have hNn : HN.next = H3.next + 1 := by rw [hHN]; simp
    have hrow : kRow HN 3 1 1 (some ⟨H3.next, 0, none⟩) = some [.int .i64 (t : Int)] := by rw [hHN]; simp [kRow, rd]
    have hrd : rd (nts (x :: y :: W)) 2 W.length = some (nts W) := by
      unfold rd
      rw [if_pos (by simp [nts_len]; omega)]
      show some (List.take W.length (nts W)) = _
      rw [List.take_of_length_le (by rw [nts_len]; omega)]
    have hap : kApp HN 3 1 8 (.slice (some ⟨b, 2, none⟩) W.length capx) 1 [.int .i64 (t : Int)] = some (.slice (some ⟨HN.next, 0, none⟩) (W.length + 1) capx, (HN.put b .dead).push (.cells (nts W ++ [.int .i64 (t : Int)]) 3 true)) := by
      have hr : (W.length + 1) * 8 ≤ roomMax ∧ W.length + 1 ≤ roomMax := by unfold roomMax; omega
      simp only [kApp, hgN, hr, and_self, if_true, Nat.mul_one, hrd, Option.map_some, Nat.one_ne_zero, if_false]
    have hnk : H1.next ≤ H3.next := by omega
    have hk1 := hkp.1
    simp [q3, addOff, hg3, c0, c1, v1, p5, v2, hsl, kFill, evPs, isTup, cellsL, wr]
    refine ⟨by omega, by omega, ?_⟩
    rw [← hHN, hrow]
    simp only [Option.bind_some, hap, oT_some]
    have hnts : nts W ++ [.int .i64 (t : Int)] = nts (W ++ [t]) := by simp [nts]
    refine ⟨L.length - 1, by omega, HN.next, W ++ [t], k + 1, ic + t, by simp; omega, by simp, by simp; omega, ?_, by omega, ?_, by simp; omega, ?_, ?_, by simp [p0], by simp, by simp⟩
    · refine ⟨by simp [next_put]; omega, fun j hj => ?_⟩
      rw [get_old (by rw [next_put]; omega), get_put_ne (by omega), hHN, get_old (by omega), hk3 j (by omega), hk2 j (by omega)]
      exact hkp.2 j hj
    · have := get_last (H := HN.put b .dead) (b := .cells (nts W ++ [.int .i64 (t : Int)]) 3 true)
      rw [next_put, hnts] at this
      rw [hnts]; exact this
    · have : t ≤ L0.sum := by omega
      rw [Nat.succ_mul]; omega
    · intro c hc'
      have h1 : Hc (t :: W) c := hc'.perm (List.perm_append_singleton t W).symm
      have h2 : Hc L (t + c) := by
        rw [ht]
        exact .two hpp.symm hx hy (ht ▸ h1)
      have := hc _ h2
      rw [show ic + t + c = ic + (t + c) by omega]
      exact this
  · have h4 : L.length = 1 := by omega
    have h3' : ¬ (1 : Int) < L.length := by omega
    simp [s42_0, e3, h3, h3']
    refine hQ _ _ ic ?_ hkp (by simp [e5])
    match L, h4 with
    | [z], _ => exact hc 0 (.one z)
/-- numbers gathered by append, from N on -/
def Gn (N : Nat) (H : Heap) (v : Value) (L : List Nat) : Prop := (L = [] ∧ v = .slice none 0 0) ∨ ∃ b, N ≤ b ∧ v = .slice (some ⟨b, 0, none⟩) L.length capx ∧ H.get b = .cells (nts L) 3 true
theorem Gn.app {N : Nat} {H : Heap} {v : Value} {L : List Nat} (h : Gn N H v L) (hN : N ≤ H.next) (hl : L.length ≤ 1000) (x : Nat) :
    ∃ v' H', kRow (H.push (.cells [.int .i64 (x : Int)] 3 true)) 3 1 1 (some ⟨H.next, 0, none⟩) = some [.int .i64 (x : Int)] ∧ kApp (H.push (.cells [.int .i64 (x : Int)] 3 true)) 3 1 8 v 1 [.int .i64 (x : Int)] = some (v', H') ∧ Gn N H' v' (L ++ [x]) ∧ Kp N H H' := by
  obtain ⟨HN, hHN⟩ : ∃ HN, HN = H.push (.cells [.int .i64 (x : Int)] 3 true) := ⟨_, rfl⟩
  have hNn : HN.next = H.next + 1 := by rw [hHN]; simp
  have hrow : kRow HN 3 1 1 (some ⟨H.next, 0, none⟩) = some [.int .i64 (x : Int)] := by rw [hHN]; simp [kRow, rd]
  rw [← hHN]
  rcases h with ⟨rfl, rfl⟩ | ⟨b, hb, rfl, hg⟩
  · refine ⟨.slice (some ⟨HN.next, 0, none⟩) 1 capx, HN.push (.cells [.int .i64 (x : Int)] 3 true), hrow, ?_, .inr ⟨HN.next, by omega, by simp, by rw [get_last]; rfl⟩, ⟨by simp; omega, fun k hk => by rw [get_old (by omega), hHN, get_old (by omega)]⟩⟩
    have hr : 1 * 8 ≤ roomMax ∧ 1 ≤ roomMax := by unfold roomMax; omega
    simp only [kApp, hr, and_self, if_true, Nat.one_ne_zero, if_false]
  · have hlt := lt_cells hg
    have hgN : HN.get b = .cells (nts L) 3 true := by rw [hHN, get_old hlt]; exact hg
    have hrd : rd (nts L) 0 L.length = some (nts L) := by
      unfold rd
      rw [if_pos (by rw [nts_len]; omega), List.drop_zero, List.take_of_length_le (by rw [nts_len]; omega)]
    have hr : (L.length + 1) * 8 ≤ roomMax ∧ L.length + 1 ≤ roomMax := by unfold roomMax; omega
    have hnts : nts L ++ [.int .i64 (x : Int)] = nts (L ++ [x]) := by simp [nts]
    refine ⟨.slice (some ⟨HN.next, 0, none⟩) (L.length + 1) capx, (HN.put b .dead).push (.cells (nts L ++ [.int .i64 (x : Int)]) 3 true), hrow, ?_, .inr ⟨HN.next, by omega, by simp, ?_⟩, ⟨by simp [next_put]; omega, fun k hk => by rw [get_old (by rw [next_put]; omega), get_put_ne (by omega), hHN, get_old (by omega)]⟩⟩
    · simp only [kApp, hgN, hr, and_self, if_true, Nat.mul_one, hrd, Option.map_some, Nat.one_ne_zero, if_false]
    · have := get_last (H := HN.put b .dead) (b := .cells (nts L ++ [.int .i64 (x : Int)]) 3 true)
      rw [next_put, hnts] at this
      rw [hnts]; exact this
/-- the symbols' counts are gathered -/
structure GaI (H0 : Heap) (a0 : Value) (c : List Int) (d : Nat) (e : Fe) (H : Heap) (i : Nat) : Prop where
  hi : i ≤ c.length
  h2 : d = c.length - i
  kp : Kp H0.next H0 H
  gn : Gn H0.next H (e 3) ((lvs c i).map (·.2))
  e0 : e 0 = a0
  e4 : e 4 = .int .i64 i
theorem rBest_t (hl : Iv H a c) (hr : cright c = true) :
    Wf S 42 [.slice a c.length cc] H fun v H' => Kp H.next H H' ∧ ∃ B : Nat, v = .int .i64 B ∧ BestIs c B := by
  have hlen := cright_len hr
  have hbd := cright_bd hr
  have hsome := cright_some hr
  refine w42 rfl rfl _ ?_
  simp [s42]
  refine l42_1 S (fun d e H' => ∃ i, GaI H (.slice a c.length cc) c d e H' i) c.length ⟨0, by omega, by omega, Kp.refl _ _, .inl ⟨rfl, by simp⟩, by simp, by simp⟩ ?_
  rintro d e H1 ⟨i, hi, rfl, hk, hg, e0, e4⟩
  by_cases h3 : i < c.length
  · obtain ⟨b, o, cs, rw, rfl, hgb, hc⟩ := (hl.kp hk) (by omega)
    obtain ⟨x, hx⟩ : ∃ x, c[i]? = some x := ⟨_, List.getElem?_eq_getElem h3⟩
    have hcx := hc i x hx
    have hw : IntKind.i64.wrap ((i : Int) + 1) = (i : Int) + 1 := wi (by omega) (by omega)
    have hat := at0_of hx
    by_cases h4 : 0 < x
    · obtain ⟨w, rfl⟩ : ∃ w : Nat, x = (w : Int) := ⟨x.toNat, by omega⟩
      have h4' : 0 < w := by omega
      have hyes : lvs c (i + 1) = lvs c i ++ [(i, w)] := by simp only [lvs]; rw [hat, if_pos h4]; simp
      have hll := lvs_len c i
      obtain ⟨v', H2, hrow, hap, hg2, hk2⟩ := hg.app hk.1 (by simp; omega) w
      simp [s42_1, e0, e4, h3, addOff, hgb, hcx, h4, h4', kFill, evPs, isTup, cellsL, wr, hw]
      rw [hrow]
      simp only [Option.bind_some, hap, oT_some]
      exact ⟨c.length - (i + 1), by omega, i + 1, by omega, rfl, hk.trans hk2, by rw [hyes, List.map_append]; simpa using hg2, by simp [e0], by simp⟩
    · have hno : lvs c (i + 1) = lvs c i := by simp only [lvs]; rw [hat, if_neg h4]
      simp [s42_1, e0, e4, h3, addOff, hgb, hcx, h4, hw]
      exact ⟨c.length - (i + 1), by omega, i + 1, by omega, rfl, hk, by rw [hno]; simpa using hg, by simp [e0], by simp⟩
  · have h5 : i = c.length := by omega
    subst h5
    obtain ⟨L, hL⟩ : ∃ L, L = (lvs c c.length).map (·.2) := ⟨_, rfl⟩
    rw [← hL] at hg
    have hLl : L.length = (lvs c c.length).length := by rw [hL, List.length_map]
    have hle := lvs_len c c.length
    rcases hg with ⟨h, _⟩ | ⟨b, hb, e3, hgb⟩
    · rw [h] at hLl; simp at hLl; omega
    by_cases h6 : L.length = 1
    · obtain ⟨z, hz⟩ : ∃ z, L = [z] := by
        match L, h6 with
        | [z], _ => exact ⟨z, rfl⟩
      have hbest : BestIs c z := by
        rw [hz] at hLl
        match hv : lvs c c.length, hLl with
        | [(s, w)], _ =>
          rw [hv, hz] at hL
          simp at hL
          exact .inl ⟨s, by rw [hL]; exact hv⟩
      rw [hz] at e3 hgb
      have c0 : (nts [z])[0]? = some (.int .i64 (z : Int)) := rfl
      simp [s42_1, e0, e4, e3, addOff, hgb, c0]
      exact ⟨hk, z, rfl, hbest⟩
    · have h6' : ¬ (L.length : Int) = 1 := by omega
      have hLs : L.sum ≤ 268435456 := by
        have h1 := sum_le (l := L) (b := 1048576) (fun x hx => by
          rw [hL] at hx
          obtain ⟨u, hu, rfl⟩ := List.mem_map.1 hx
          exact lvs_le hbd (ct_bd hbd) _ u hu)
        have : L.length * 1048576 ≤ 256 * 1048576 := Nat.mul_le_mul_right _ (by omega)
        omega
      simp [s42_1, e0, e4, e3, h6, h6']
      refine bestLoop_t (H0 := H) (L0 := L) (a0 := .slice a c.length cc) (b := b) (by omega) hLs ⟨rfl, by omega, by omega, hk, hb, hgb, rfl, by omega, fun c hc => by simpa using hc, by simp [e0], by simp [e3], by simp⟩ ?_
      intro e' H' B hB hkB e5
      simp [e5]
      exact ⟨hkB, B, rfl, .inr ⟨by omega, hL ▸ hB⟩⟩
end
end Go.Proofs.Ytlboioplemlneaa.K
/- How many bits a number has, by the program (a table) and by the document. -/
set_option maxRecDepth 100000
set_option maxHeartbeats 4000000
set_option linter.unusedVariables false
set_option linter.unusedSimpArgs false
namespace Go.Proofs.Ytlboioplemlneaa.K
open Go Go.Proofs
def wdF : Nat → Nat → Nat
  | 0, _ => 0
  | f + 1, v => if v = 0 then 0 else wdF f (v / 2) + 1
/-- how many bits v has -/
def wd (v : Nat) : Nat := wdF 32 v
theorem wdF_more : ∀ f v, v < 2 ^ f → wdF (f + 1) v = wdF f v
  | 0, v, h => by have : v = 0 := by omega
                  subst this; rfl
  | f + 1, v, h => by
    rw [wdF]
    conv => rhs; rw [wdF]
    by_cases h0 : v = 0
    · rw [if_pos h0, if_pos h0]
    · rw [if_neg h0, if_neg h0, wdF_more f (v / 2) (by rw [Nat.pow_succ] at h; omega)]
theorem wd_step {v : Nat} (h0 : 0 < v) (h : v < 2 ^ 32) : wd v = wd (v / 2) + 1 := by
  unfold wd
  rw [← wdF_more 32 v h]
  rw [wdF, if_neg (by omega)]
structure WiI (H0 : Heap) (x d : Nat) (e : Fe) (H : Heap) (n : Nat) : Prop where
  hH : H = H0
  e0 : e 0 = .int .u32 d
  e3 : e 3 = .int .i64 n
  hs : n + wd d = wd x
  hd : d < 2 ^ 32
  hn : n ≤ 32
  hdn : d * 2 ^ n ≤ x
theorem lenTab : ∀ x : Fin 256, (bs [0, 1, 2, 2, 3, 3, 3, 3, 4, 4, 4, 4, 4, 4, 4, 4, 5, 5, 5, 5, 5, 5, 5, 5, 5, 5, 5, 5, 5, 5, 5, 5, 6, 6, 6, 6, 6, 6, 6, 6, 6, 6, 6, 6, 6, 6, 6, 6, 6, 6, 6, 6, 6,
    6, 6, 6, 6, 6, 6, 6, 6, 6, 6, 6, 7, 7, 7, 7, 7, 7, 7, 7, 7, 7, 7, 7, 7, 7, 7, 7, 7, 7, 7, 7, 7, 7, 7, 7, 7, 7, 7, 7, 7, 7, 7, 7, 7, 7, 7, 7, 7, 7, 7, 7, 7, 7,
    7, 7, 7, 7, 7, 7, 7, 7, 7, 7, 7, 7, 7, 7, 7, 7, 7, 7, 7, 7, 7, 7, 8, 8, 8, 8, 8, 8, 8, 8, 8, 8, 8, 8, 8, 8, 8, 8, 8, 8, 8, 8, 8, 8, 8, 8, 8, 8, 8, 8, 8, 8, 8,
    8, 8, 8, 8, 8, 8, 8, 8, 8, 8, 8, 8, 8, 8, 8, 8, 8, 8, 8, 8, 8, 8, 8, 8, 8, 8, 8, 8, 8, 8, 8, 8, 8, 8, 8, 8, 8, 8, 8, 8, 8, 8, 8, 8, 8, 8, 8, 8, 8, 8, 8, 8, 8,
    8, 8, 8, 8, 8, 8, 8, 8, 8, 8, 8, 8, 8, 8, 8, 8, 8, 8, 8, 8, 8, 8, 8, 8, 8, 8, 8, 8, 8, 8, 8, 8, 8, 8, 8, 8, 8, 8, 8, 8, 8, 8, 8, 8]).data[x.val]? = some (UInt8.ofNat (wd x.val)) := by decide +kernel
theorem wd_le : ∀ x : Fin 256, wd x.val ≤ 8 := by decide +kernel
section
variable {H : Heap}
theorem rWidth_t (x : Nat) (hx : x < 2 ^ 32) : Wf S 93 [.int .u32 x] H fun v H' => H' = H ∧ v = .int .i64 (wd x) := by
  refine w93 rfl rfl _ ?_
  simp [s93]
  refine l93_0 S (fun d e H' => ∃ n : Nat, WiI H x d e H' n) x ⟨0, rfl, by simp, by simp, by omega, hx, by omega, by simp⟩ ?_
  rintro d e H1 ⟨n, rfl, e0, e3, hs, hd, hn, hdn⟩
  by_cases h : 0 < d
  · have hst := wd_step h hd
    have h' : (0 : Int) < d := by omega
    have hn32 : n < 32 := by
      rcases Nat.lt_or_ge n 32 with h1 | h1
      · exact h1
      · exfalso
        have : 2 ^ 32 ≤ 2 ^ n := Nat.pow_le_pow_right (by omega) h1
        have h2 : 1 * 2 ^ n ≤ d * 2 ^ n := Nat.mul_le_mul_right _ h
        omega
    have w1 : IntKind.u32.wrap ((d : Int) / 2) = ((d / 2 : Nat) : Int) := by
      simp [IntKind.wrap, IntKind.signed, IntKind.bits]; omega
    have w2 : IntKind.i64.wrap ((n : Int) + 1) = (n : Int) + 1 := wi (by omega) (by omega)
    have t1 : (d : Int).tdiv 2 = (d : Int) / 2 := Int.tdiv_eq_ediv_of_nonneg (by omega)
    simp [s93_0, e0, e3, h, h', t1, w1, w2]
    refine ⟨d / 2, by omega, n + 1, rfl, by simp, by simp, by omega, by omega, by omega, ?_⟩
    rw [Nat.pow_succ]
    have : d / 2 * 2 ≤ d := by omega
    calc d / 2 * (2 ^ n * 2) = (d / 2 * 2) * 2 ^ n := by rw [Nat.mul_comm (2 ^ n) 2, Nat.mul_assoc]
      _ ≤ d * 2 ^ n := Nat.mul_le_mul_right _ this
      _ ≤ x := hdn
  · have h5 : d = 0 := by omega
    subst h5
    have : wd 0 = 0 := rfl
    simp [s93_0, e0, e3]
    omega
theorem hWidth_t (x : Nat) (hx : x < 256) : Wf S 121 [.int .u32 x] H fun v H' => H' = H ∧ v = .int .i64 (wd x) := by
  have h1 : ¬ (65536 : Int) ≤ x := by omega
  have h2 : ¬ (256 : Int) ≤ x := by omega
  have h1' : ¬ 65536 ≤ x := by omega
  have h2' : ¬ 256 ≤ x := by omega
  have w1 : IntKind.u8.wrap (x : Int) = x := by
    simp [IntKind.wrap, IntKind.signed, IntKind.bits]; omega
  refine w121 rfl rfl _ ?_
  simp [s121]
  refine w135 rfl rfl _ ?_
  simp [s135, h1, h2, h1', h2', w1]
  have hk := lenTab ⟨x, hx⟩
  have hle := wd_le ⟨x, hx⟩
  simp only at hk hle
  rw [hk]
  have hm : (wd x) % 256 = wd x := by omega
  have w2 : IntKind.i64.wrap (wd x : Int) = wd x := wi (by omega) (by omega)
  simp [hm, w2]
end
end Go.Proofs.Ytlboioplemlneaa.K
/- A stable sort's parts, plainly: swaps in a range, two blocks swapped, a rotation, two sorted runs that are merged. -/
set_option maxRecDepth 100000
set_option maxHeartbeats 1000000
set_option linter.unusedVariables false
set_option linter.unusedSimpArgs false
set_option linter.unusedSectionVars false
namespace Go.Proofs.Ytlboioplemlneaa.K
open Go
section
variable {α : Type} [Inhabited α] {lt : α → α → Bool}
/-- in another order within a range -/
structure PR (l l' : Array α) (a b : Nat) : Prop where
  p : l'.Perm l
  out : ∀ k, (k < a ∨ b ≤ k) → ix l' k = ix l k
  inn : ∀ k, a ≤ k → k < b → ∃ j, a ≤ j ∧ j < b ∧ ix l' k = ix l j
theorem PR.refl (l : Array α) (a b : Nat) : PR l l a b := ⟨Array.Perm.refl _, fun _ _ => rfl, fun k h1 h2 => ⟨k, h1, h2, rfl⟩⟩
theorem PR.trans {l l' l2 : Array α} {a b : Nat} (h : PR l l' a b) (h' : PR l' l2 a b) : PR l l2 a b :=
  ⟨h'.p.trans h.p, fun k hk => (h'.out k hk).trans (h.out k hk), fun k h1 h2 => by
    obtain ⟨j, j1, j2, e⟩ := h'.inn k h1 h2
    obtain ⟨i, i1, i2, e2⟩ := h.inn j j1 j2
    exact ⟨i, i1, i2, e.trans e2⟩⟩
theorem PR.mono {l l' : Array α} {a b a' b' : Nat} (h : PR l l' a b) (ha : a' ≤ a) (hb : b ≤ b') : PR l l' a' b' :=
  ⟨h.p, fun k hk => h.out k (by omega), fun k h1 h2 => by
    by_cases hk : a ≤ k ∧ k < b
    · obtain ⟨j, j1, j2, e⟩ := h.inn k hk.1 hk.2
      exact ⟨j, by omega, by omega, e⟩
    · exact ⟨k, h1, h2, h.out k (by omega)⟩⟩
theorem PR.size {l l' : Array α} {a b : Nat} (h : PR l l' a b) : l'.size = l.size := by
  have := (Array.perm_iff_toList_perm.1 h.p).length_eq
  simpa using this
theorem PR.swap {l l' : Array α} {a b i j : Nat} (h : PR l l' a b) (hi : i < l'.size) (hj : j < l'.size) (h1 : a ≤ i) (h2 : i < b) (h3 : a ≤ j) (h4 : j < b) : PR l (l'.swap i j hi hj) a b :=
  h.trans ⟨Array.swap_perm hi hj, fun k hk => by rw [ix_swap, if_neg (by omega), if_neg (by omega)], fun k k1 k2 => by
    rw [ix_swap]
    split
    · exact ⟨j, h3, h4, rfl⟩
    · split
      · exact ⟨i, h1, h2, rfl⟩
      · exact ⟨k, k1, k2, rfl⟩⟩
variable (lt) in
def Srt (l : Array α) (a b : Nat) : Prop := ∀ i j, a ≤ i → i < j → j < b → lt (ix l j) (ix l i) = false
variable (lt) in
/-- none of one range is greater than one of another -/
def Ahd (l : Array α) (a b c d : Nat) : Prop := ∀ i j, a ≤ i → i < b → c ≤ j → j < d → lt (ix l j) (ix l i) = false
theorem Srt.same {l l' : Array α} {a b : Nat} (h : Srt lt l a b) (he : ∀ k, a ≤ k → k < b → ix l' k = ix l k) : Srt lt l' a b := fun i j h1 h2 h3 => by
  rw [he i h1 (by omega), he j (by omega) h3]; exact h i j h1 h2 h3
theorem Srt.sub {l : Array α} {a b a' b' : Nat} (h : Srt lt l a b) (ha : a ≤ a') (hb : b' ≤ b) : Srt lt l a' b' := fun i j h1 h2 h3 => h i j (by omega) h2 (by omega)
theorem Srt.small {l : Array α} {a b : Nat} (h : b ≤ a + 1) : Srt lt l a b := fun i j h1 h2 h3 => by omega
theorem Ahd.pr {l l' : Array α} {a b c d : Nat} (h : Ahd lt l a b c d) (hp : ∀ k, a ≤ k → k < b → ∃ j, a ≤ j ∧ j < b ∧ ix l' k = ix l j) (hq : ∀ k, c ≤ k → k < d → ∃ j, c ≤ j ∧ j < d ∧ ix l' k = ix l j) : Ahd lt l' a b c d := fun i j h1 h2 h3 h4 => by
  obtain ⟨i', i1, i2, e1⟩ := hp i h1 h2
  obtain ⟨j', j1, j2, e2⟩ := hq j h3 h4
  rw [e1, e2]; exact h i' j' i1 i2 j1 j2
theorem Srt.join {l : Array α} {a m b : Nat} (h1 : Srt lt l a m) (h2 : Srt lt l m b) (h : Ahd lt l a m m b) : Srt lt l a b := fun i j h3 h4 h5 => by
  by_cases hj : j < m
  · exact h1 i j h3 h4 hj
  · by_cases hi : i < m
    · exact h i j h3 hi (by omega) h5
    · exact h2 i j (by omega) h4 h5

/-- two blocks of n change places -/
def SwR (l l' : Array α) (a b n : Nat) : Prop := ∀ k, ix l' k = if a ≤ k ∧ k < a + n then ix l (k + (b - a)) else if b ≤ k ∧ k < b + n then ix l (k - (b - a)) else ix l k
theorem SwR.nil (l : Array α) (a b : Nat) : SwR l l a b 0 := fun k => by rw [if_neg (by omega), if_neg (by omega)]
theorem SwR.step {l l' : Array α} {a b n : Nat} (h : SwR l l' a b n) (hab : a + n < b) (hi : a + n < l'.size) (hj : b + n < l'.size) : SwR l (l'.swap (a + n) (b + n) hi hj) a b (n + 1) := fun k => by
  rw [ix_swap]
  have e1 := h (a + n)
  rw [if_neg (by omega), if_neg (by omega)] at e1
  have e2 := h (b + n)
  rw [if_neg (by omega), if_neg (by omega)] at e2
  by_cases k1 : k = a + n
  · rw [if_pos k1, if_pos (by omega), e2]; congr 1; omega
  · rw [if_neg k1]
    by_cases k2 : k = b + n
    · rw [if_pos k2, if_neg (by omega), if_pos (by omega), e1]; congr 1; omega
    · rw [if_neg k2, h k]
      by_cases k3 : a ≤ k ∧ k < a + n
      · rw [if_pos k3, if_pos (by omega)]
      · rw [if_neg k3]
        by_cases k4 : b ≤ k ∧ k < b + n
        · rw [if_pos k4, if_neg (by omega), if_pos (by omega)]
        · rw [if_neg k4, if_neg (by omega), if_neg (by omega)]

/-- u v becomes v u -/
def Rot (l l' : Array α) (a m b : Nat) : Prop := ∀ k, ix l' k = if k < a ∨ b ≤ k then ix l k else if k < a + (b - m) then ix l (k + m - a) else ix l (k - (b - m))
theorem Rot.nil {l : Array α} {a m b : Nat} (h1 : a ≤ m) (h2 : m ≤ b) (h : a = m ∨ m = b) : Rot l l a m b := fun k => by
  split
  · rfl
  · split
    · congr 1; omega
    · congr 1; omega
theorem Rot.big {l l1 l' : Array α} {i j m : Nat} (hj : j < i) (hi : i ≤ m) (h : SwR l l1 (m - i) m j) (h' : Rot l1 l' (m - (i - j)) m (m + j)) : Rot l l' (m - i) m (m + j) := fun k => by
  rw [h' k]
  by_cases k1 : k < m - i ∨ m + j ≤ k
  · rw [if_pos k1, if_pos (by omega), h k, if_neg (by omega), if_neg (by omega)]
  · rw [if_neg k1]
    by_cases k2 : k < m - (i - j)
    · rw [if_pos (by omega), if_pos (by omega), h k, if_pos (by omega)]; congr 1; omega
    · rw [if_neg (by omega)]
      by_cases k3 : k < m - (i - j) + (m + j - m)
      · rw [if_pos k3, if_neg (by omega), h, if_neg (by omega), if_pos (by omega)]; congr 1; omega
      · rw [if_neg k3, if_neg (by omega), h, if_neg (by omega), if_neg (by omega)]
theorem Rot.small {l l1 l' : Array α} {i j m : Nat} (hj : i < j) (hi : i ≤ m) (h : SwR l l1 (m - i) (m + j - i) i) (h' : Rot l1 l' (m - i) m (m + (j - i))) : Rot l l' (m - i) m (m + j) := fun k => by
  rw [h' k]
  by_cases k1 : k < m - i ∨ m + j ≤ k
  · rw [if_pos k1, if_pos (by omega), h k, if_neg (by omega), if_neg (by omega)]
  · rw [if_neg k1]
    by_cases k2 : m + (j - i) ≤ k
    · rw [if_pos (by omega), if_neg (by omega), h k, if_neg (by omega), if_pos (by omega)]; congr 1; omega
    · rw [if_neg (by omega)]
      by_cases k3 : k < m - i + (m + (j - i) - m)
      · rw [if_pos k3, if_pos (by omega), h, if_neg (by omega), if_neg (by omega)]
      · rw [if_neg k3, if_pos (by omega), h, if_pos (by omega)]; congr 1; omega
theorem Rot.last {l l1 : Array α} {i m : Nat} (hi : i ≤ m) (h : SwR l l1 (m - i) m i) : Rot l l1 (m - i) m (m + i) := fun k => by
  rw [h k]
  by_cases k1 : k < m - i ∨ m + i ≤ k
  · rw [if_neg (by omega), if_neg (by omega), if_pos k1]
  · by_cases k2 : k < m
    · rw [if_pos (by omega), if_neg k1, if_pos (by omega)]; congr 1; omega
    · rw [if_neg (by omega), if_pos (by omega), if_neg k1, if_neg (by omega)]; congr 1; omega
theorem Rot.c0 {l l' : Array α} {a m b k : Nat} (h : Rot l l' a m b) (hk : k < a ∨ b ≤ k) : ix l' k = ix l k := by rw [h k, if_pos hk]
theorem Rot.c1 {l l' : Array α} {a m b k : Nat} (h : Rot l l' a m b) (h1 : a ≤ k) (h2 : k < b) (h3 : k < a + (b - m)) (j : Nat) (hj : j = k + m - a) : ix l' k = ix l j := by rw [h k, if_neg (by omega), if_pos h3, hj]
theorem Rot.c2 {l l' : Array α} {a m b k : Nat} (h : Rot l l' a m b) (h1 : a ≤ k) (h2 : k < b) (h3 : a + (b - m) ≤ k) (j : Nat) (hj : j = k - (b - m)) : ix l' k = ix l j := by rw [h k, if_neg (by omega), if_neg (by omega), hj]
/-- the first one goes on by one -/
theorem Rot.up {l l' : Array α} {a k : Nat} (hak : a ≤ k) (h : Rot l l' a (a + 1) (k + 1)) (hi : k < l'.size) (hj : k + 1 < l'.size) : Rot l (l'.swap k (k + 1) hi hj) a (a + 1) (k + 2) := fun x => by
  have e1 := h k
  rw [if_neg (by omega), if_neg (by omega)] at e1
  have e2 := h (k + 1)
  rw [if_pos (by omega)] at e2
  rw [ix_swap]
  by_cases x1 : x = k
  · subst x1; rw [if_pos rfl, e2, if_neg (by omega), if_pos (by omega)]; congr 1; omega
  · rw [if_neg x1]
    by_cases x2 : x = k + 1
    · subst x2; rw [if_pos rfl, e1, if_neg (by omega), if_neg (by omega)]; congr 1; omega
    · rw [if_neg x2, h x]
      by_cases x3 : x < a ∨ k + 1 ≤ x
      · rw [if_pos x3, if_pos (by omega)]
      · rw [if_neg x3, if_pos (by omega), if_neg (by omega), if_pos (by omega)]
/-- the last one comes down by one -/
theorem Rot.down {l l' : Array α} {m k : Nat} (hk : k < m) (h : Rot l l' (k + 1) m (m + 1)) (hi : k + 1 < l'.size) (hj : k < l'.size) : Rot l (l'.swap (k + 1) k hi hj) k m (m + 1) := fun x => by
  have e1 := h k
  rw [if_pos (by omega)] at e1
  have e2 := h (k + 1)
  rw [if_neg (by omega), if_pos (by omega)] at e2
  rw [ix_swap]
  by_cases x1 : x = k + 1
  · subst x1; rw [if_pos rfl, e1, if_neg (by omega), if_neg (by omega)]; congr 1; omega
  · rw [if_neg x1]
    by_cases x2 : x = k
    · subst x2; rw [if_pos rfl, e2, if_neg (by omega), if_pos (by omega)]; congr 1; omega
    · rw [if_neg x2, h x]
      by_cases x3 : x < k + 1 ∨ m + 1 ≤ x
      · rw [if_pos x3, if_pos (by omega)]
      · rw [if_neg x3, if_neg (by omega), if_neg (by omega), if_neg (by omega)]

/-- a search by halves: false below s, true from r on -/
structure BS (P : Nat → Bool) (s0 r0 s r : Nat) : Prop where
  a : s0 ≤ s
  b : s ≤ r
  c : r ≤ r0
  lo : ∀ k, s0 ≤ k → k < s → P k = false
  hi : ∀ k, r ≤ k → k < r0 → P k = true
theorem BS.start {P : Nat → Bool} {s0 r0 : Nat} (h : s0 ≤ r0) : BS P s0 r0 s0 r0 := ⟨Nat.le_refl _, h, Nat.le_refl _, fun k h1 h2 => by omega, fun k h1 h2 => by omega⟩
def Mono (P : Nat → Bool) (s0 r0 : Nat) : Prop := ∀ k' k, s0 ≤ k' → k' ≤ k → k < r0 → P k = false → P k' = false
theorem BS.no {P : Nat → Bool} {s0 r0 s r c : Nat} (h : BS P s0 r0 s r) (hm : Mono P s0 r0) (h1 : s ≤ c) (h2 : c < r) (hc : P c = false) : BS P s0 r0 (c + 1) r :=
  ⟨by have := h.a; omega, by omega, h.c, fun k k1 k2 => hm k c k1 (by omega) (by have := h.c; omega) hc, h.hi⟩
theorem BS.yes {P : Nat → Bool} {s0 r0 s r c : Nat} (h : BS P s0 r0 s r) (hm : Mono P s0 r0) (h1 : s ≤ c) (h2 : c < r) (hc : P c = true) : BS P s0 r0 s c :=
  ⟨h.a, h1, by have := h.c; omega, h.lo, fun k k1 k2 => by
    cases hk : P k with
    | true => rfl
    | false => rw [hm c k (by have := h.a; omega) k1 k2 hk] at hc; cases hc⟩

/-- one element ahead of a run is put in -/
theorem ins_first {l l' : Array α} {a b i : Nat} (ho : Ord lt) (hs : Srt lt l (a + 1) b) (hb : a + 1 ≤ b) (h : BS (fun k => !lt (ix l k) (ix l a)) (a + 1) b i i) (hr : Rot l l' a (a + 1) i) : Srt lt l' a b := fun x y h1 h2 h3 => by
  have := h.a; have := h.c
  have lo : ∀ k, a + 1 ≤ k → k < i → lt (ix l k) (ix l a) = true := fun k k1 k2 => by have := h.lo k k1 k2; simpa using this
  have hi : ∀ k, i ≤ k → k < b → lt (ix l k) (ix l a) = false := fun k k1 k2 => by have := h.hi k k1 k2; simpa using this
  have le : ∀ p q, a + 1 ≤ p → p ≤ q → q < b → lt (ix l q) (ix l p) = false := fun p q k1 k2 k3 => by
    by_cases e : p = q
    · rw [e]; exact ho.refl _
    · exact hs p q k1 (by omega) k3
  by_cases x1 : i ≤ x
  · rw [hr.c0 (k := x) (by omega), hr.c0 (k := y) (by omega)]; exact le _ _ (by omega) (by omega) h3
  · by_cases y1 : i ≤ y
    · rw [hr.c0 (k := y) (by omega)]
      by_cases x2 : x + 1 < i
      · rw [hr.c1 (k := x) (by omega) (by omega) (by omega) (x + 1) (by omega)]; exact le _ _ (by omega) (by omega) h3
      · rw [hr.c2 (k := x) (by omega) (by omega) (by omega) a (by omega)]; exact hi y y1 h3
    · rw [hr.c1 (k := x) (by omega) (by omega) (by omega) (x + 1) (by omega)]
      by_cases y2 : y + 1 < i
      · rw [hr.c1 (k := y) (by omega) (by omega) (by omega) (y + 1) (by omega)]; exact le _ _ (by omega) (by omega) (by omega)
      · rw [hr.c2 (k := y) (by omega) (by omega) (by omega) a (by omega)]; exact ho.asym _ _ (lo _ (by omega) (by omega))
theorem mono_first {l : Array α} {a b : Nat} (ho : Ord lt) (hs : Srt lt l (a + 1) b) : Mono (fun k => !lt (ix l k) (ix l a)) (a + 1) b := fun k' k h1 h2 h3 h => by
  simp only [Bool.not_eq_false'] at h ⊢
  cases hk : lt (ix l k') (ix l a) with
  | true => rfl
  | false =>
    by_cases e : k' = k
    · rw [e, h] at hk; cases hk
    · rw [ho.trans _ _ _ hk (hs k' k h1 (by omega) h3)] at h; cases h
/-- one element behind a run is put in -/
theorem ins_last {l l' : Array α} {a m i : Nat} (ho : Ord lt) (hs : Srt lt l a m) (hm : a ≤ m) (h : BS (fun k => lt (ix l m) (ix l k)) a m i i) (hr : Rot l l' i m (m + 1)) : Srt lt l' a (m + 1) := fun x y h1 h2 h3 => by
  have := h.a; have := h.c
  have lo : ∀ k, a ≤ k → k < i → lt (ix l m) (ix l k) = false := h.lo
  have hi : ∀ k, i ≤ k → k < m → lt (ix l m) (ix l k) = true := h.hi
  have le : ∀ p q, a ≤ p → p ≤ q → q < m → lt (ix l q) (ix l p) = false := fun p q k1 k2 k3 => by
    by_cases e : p = q
    · rw [e]; exact ho.refl _
    · exact hs p q k1 (by omega) k3
  by_cases y1 : y < i
  · rw [hr.c0 (k := x) (by omega), hr.c0 (k := y) (by omega)]; exact le _ _ (by omega) (by omega) (by omega)
  · by_cases y2 : y = i
    · rw [hr.c0 (k := x) (by omega), hr.c1 (k := y) (by omega) (by omega) (by omega) m (by omega)]; exact lo x h1 (by omega)
    · rw [hr.c2 (k := y) (by omega) (by omega) (by omega) (y - 1) (by omega)]
      by_cases x1 : x < i
      · rw [hr.c0 (k := x) (by omega)]; exact le _ _ (by omega) (by omega) (by omega)
      · by_cases x2 : x = i
        · rw [hr.c1 (k := x) (by omega) (by omega) (by omega) m (by omega)]; exact ho.asym _ _ (hi _ (by omega) (by omega))
        · rw [hr.c2 (k := x) (by omega) (by omega) (by omega) (x - 1) (by omega)]; exact le _ _ (by omega) (by omega) (by omega)
theorem mono_last {l : Array α} {a m : Nat} (ho : Ord lt) (hs : Srt lt l a m) : Mono (fun k => lt (ix l m) (ix l k)) a m := fun k' k h1 h2 h3 h => by
  by_cases e : k' = k
  · rw [e]; exact h
  · exact ho.trans _ _ _ (hs k' k h1 (by omega) h3) h
/-- where two runs are parted -/
theorem mono_mid {l : Array α} {a m b p s0 r0 : Nat} (ho : Ord lt) (h1 : Srt lt l a m) (h2 : Srt lt l m b) (k1 : a ≤ s0) (k2 : r0 ≤ m) (k3 : p < b + s0) (k4 : m + r0 ≤ p + 1) : Mono (fun c => lt (ix l (p - c)) (ix l c)) s0 r0 := fun k' k h3 h4 h5 h => by
  by_cases e : k' = k
  · rw [e]; exact h
  · have a1 := h1 k' k (by omega) (by omega) (by omega)
    have a2 := h2 (p - k) (p - k') (by omega) (by omega) (by omega)
    exact ho.trans _ _ _ (ho.trans _ _ _ a1 h) a2
structure Parted (lt : α → α → Bool) (l' : Array α) (a m b start mid end' : Nat) : Prop where
  s1 : Srt lt l' a start
  s2 : Srt lt l' start mid
  s3 : Srt lt l' mid end'
  s4 : Srt lt l' end' b
  hd : Ahd lt l' a mid mid b
theorem parted {l l' : Array α} {a m b mid start s0 r0 : Nat} (ho : Ord lt) (h1 : Srt lt l a m) (h2 : Srt lt l m b) (ham : a < m) (hmb : m < b) (hmid : mid = (a + b) / 2)
    (h0 : (mid < m ∧ s0 = mid + m - b ∧ r0 = mid) ∨ (m ≤ mid ∧ s0 = a ∧ r0 = m)) (hb : BS (fun c => lt (ix l (mid + m - 1 - c)) (ix l c)) s0 r0 start start)
    (hr : Rot l l' start m (mid + m - start)) : Parted lt l' a m b start mid (mid + m - start) := by
  have := hb.a; have := hb.c
  have le : ∀ i j, (a ≤ i ∧ i ≤ j ∧ j < m) ∨ (m ≤ i ∧ i ≤ j ∧ j < b) → lt (ix l j) (ix l i) = false := fun i j h => by
    by_cases e : i = j
    · rw [e]; exact ho.refl _
    · rcases h with h | h
      · exact h1 i j h.1 (by omega) h.2.2
      · exact h2 i j h.1 (by omega) h.2.2
  have cross : ∀ i j, a ≤ i → i < start → mid + m - start ≤ j → j < b → lt (ix l j) (ix l i) = false := fun i j k1 k2 k3 k4 => by
    by_cases e : start = s0
    · omega
    · have hx := hb.lo (start - 1) (by omega) (by omega)
      exact ho.trans _ _ _ (ho.trans _ _ _ (le i (start - 1) (.inl ⟨k1, by omega, by omega⟩)) hx) (le (mid + m - 1 - (start - 1)) j (.inr ⟨by omega, by omega, k4⟩))
  have cross2 : ∀ i j, m ≤ i → i < mid + m - start → start ≤ j → j < m → lt (ix l j) (ix l i) = false := fun i j k1 k2 k3 k4 => by
    by_cases e : start = r0
    · omega
    · have hx := hb.hi start (Nat.le_refl _) (by omega)
      exact ho.trans _ _ _ (ho.trans _ _ _ (le i (mid + m - 1 - start) (.inr ⟨k1, by omega, by omega⟩)) (ho.asym _ _ hx)) (le start j (.inl ⟨by omega, k3, k4⟩))
  refine ⟨fun x y p1 p2 p3 => ?_, fun x y p1 p2 p3 => ?_, fun x y p1 p2 p3 => ?_, fun x y p1 p2 p3 => ?_, fun x y p1 p2 p3 p4 => ?_⟩
  · rw [hr.c0 (k := x) (by omega), hr.c0 (k := y) (by omega)]; exact le _ _ (.inl ⟨p1, by omega, by omega⟩)
  · rw [hr.c1 (k := x) (by omega) (by omega) (by omega) (x + m - start) rfl, hr.c1 (k := y) (by omega) (by omega) (by omega) (y + m - start) rfl]; exact le _ _ (.inr ⟨by omega, by omega, by omega⟩)
  · rw [hr.c2 (k := x) (by omega) (by omega) (by omega) (x + start - mid) (by omega), hr.c2 (k := y) (by omega) (by omega) (by omega) (y + start - mid) (by omega)]; exact le _ _ (.inl ⟨by omega, by omega, by omega⟩)
  · rw [hr.c0 (k := x) (by omega), hr.c0 (k := y) (by omega)]; exact le _ _ (.inr ⟨by omega, by omega, by omega⟩)
  · by_cases x1 : x < start
    · rw [hr.c0 (k := x) (by omega)]
      by_cases y1 : mid + m - start ≤ y
      · rw [hr.c0 (k := y) (by omega)]; exact cross x y p1 x1 y1 p4
      · rw [hr.c2 (k := y) (by omega) (by omega) (by omega) (y + start - mid) (by omega)]; exact le _ _ (.inl ⟨p1, by omega, by omega⟩)
    · rw [hr.c1 (k := x) (by omega) (by omega) (by omega) (x + m - start) rfl]
      by_cases y1 : mid + m - start ≤ y
      · rw [hr.c0 (k := y) (by omega)]; exact le _ _ (.inr ⟨by omega, by omega, p4⟩)
      · rw [hr.c2 (k := y) (by omega) (by omega) (by omega) (y + start - mid) (by omega)]; exact cross2 _ _ (by omega) (by omega) (by omega) (by omega)

/-- a run, but for one that comes down -/
def InsI (lt : α → α → Bool) (l : Array α) (a i j : Nat) : Prop := ∀ x y, a ≤ x → x < y → y ≤ i → y ≠ j → lt (ix l y) (ix l x) = false
theorem InsI.start {l : Array α} {a i : Nat} (h : Srt lt l a i) : InsI lt l a i i := fun x y h1 h2 h3 h4 => h x y h1 h2 (by omega)
theorem InsI.top {l : Array α} {a i : Nat} (h : InsI lt l a i a) : Srt lt l a (i + 1) := fun x y h1 h2 h3 => h x y h1 h2 (by omega) (by omega)
theorem InsI.stop {l : Array α} {a i j : Nat} (ho : Ord lt) (h : InsI lt l a i j) (h0 : a < j) (hj : j ≤ i) (hx : lt (ix l j) (ix l (j - 1)) = false) : Srt lt l a (i + 1) := fun x y h1 h2 h3 => by
  by_cases e : y = j
  · subst e
    by_cases e2 : x = y - 1
    · rw [e2]; exact hx
    · exact ho.trans _ _ _ (h x (y - 1) h1 (by omega) (by omega) (by omega)) hx
  · exact h x y h1 h2 (by omega) e
theorem InsI.step {l : Array α} {a i j : Nat} (ho : Ord lt) (h : InsI lt l a i j) (h0 : a < j) (hj : j ≤ i) (hx : lt (ix l j) (ix l (j - 1)) = true) (h1 : j < l.size) (h2 : j - 1 < l.size) : InsI lt (l.swap j (j - 1) h1 h2) a i (j - 1) := fun x y k1 k2 k3 k4 => by
  rw [ix_swap, ix_swap]
  by_cases y1 : y = j
  · rw [if_pos y1]
    by_cases x1 : x = j - 1
    · rw [if_neg (by omega), if_pos x1]; exact ho.asym _ _ hx
    · rw [if_neg (by omega), if_neg x1]; exact h x (j - 1) k1 (by omega) (by omega) (by omega)
  · rw [if_neg y1, if_neg k4]
    by_cases x1 : x = j
    · rw [if_pos x1]; exact h (j - 1) y (by omega) (by omega) k3 y1
    · rw [if_neg x1]
      by_cases x2 : x = j - 1
      · rw [if_pos x2]; exact h j y (by omega) (by omega) k3 y1
      · rw [if_neg x2]; exact h x y k1 k2 k3 y1
end
end Go.Proofs.Ytlboioplemlneaa.K
/- huff.Lengths of any counts that may be: by the tree, or flat. -/
set_option maxRecDepth 100000
set_option maxHeartbeats 4000000
set_option linter.unusedVariables false
set_option linter.unusedSimpArgs false
namespace Go.Proofs.Ytlboioplemlneaa.K
open Go Go.Proofs
theorem mxA_mono (xs : List (Nat × Nat × Nat)) : ∀ m, m ≤ mxA m xs := by
  induction xs with
  | nil => intro m; exact Nat.le_refl _
  | cons x xs ih => intro m; exact Nat.le_trans (Nat.le_max_left _ _) (ih (max m x.2.2))
theorem mxA_ge (xs : List (Nat × Nat × Nat)) : ∀ m, ∀ x ∈ xs, x.2.2 ≤ mxA m xs := by
  induction xs with
  | nil => intro m x hx; simp at hx
  | cons y xs ih =>
    intro m x hx
    rcases List.mem_cons.1 hx with rfl | hx
    · exact Nat.le_trans (Nat.le_max_right _ _) (mxA_mono xs (max m x.2.2))
    · exact ih _ x hx
theorem T.ht_lv : ∀ t : T, t.ht ≤ t.lv.length
  | .leaf _ _ => by simp [T.ht]
  | .two _ l r => by
    have := T.ht_lv l; have := T.ht_lv r
    have := T.lv_len l; have := T.lv_len r
    simp only [T.ht, T.lv, List.length_append]; omega
/-- the answer: lengths of least cost, or what is told of flat ones -/
def LenP (c : List Int) (P : Value → Heap → Prop) (v : Value) (H' : Heap) : Prop :=
  (∃ (N : Nat) (l : List Int) (B : Nat), v = .tuple #[.slice (some ⟨N, 0, none⟩) c.length c.length, .bool true] ∧ H'.get N = .cells (ints l) 3 true ∧ LenOk c l (B : Int) ∧ BestIs c B) ∨ ∃ u, v = .tuple #[u, .bool true] ∧ P u H'
section
variable {H : Heap} {a : Option Addr} {cc : Nat} {c : List Int}
theorem Lengths_gen (P : Value → Heap → Prop) (hl : Iv H a c) (hr : cright c = true) (hflat : 376 < sumTo (at0 c) c.length → 2 ≤ (lvs c c.length).length → ∀ H1, Kp H.next H H1 → Wf S 91 [.slice a c.length cc] H1 fun v H' => Kp H1.next H1 H' ∧ P v H') :
    Wf S 38 [.slice a c.length cc] H fun v H' => Kp H.next H H' ∧ LenP c P v H' := by
  have hlen := cright_len hr
  have hbd := cright_bd hr
  have hcb := ct_bd hbd
  refine w38 rfl rfl _ ?_
  simp [s38]
  refine (cRight_t hl (by omega)).mono ?_
  rintro v H1 ⟨rfl, rfl⟩
  rw [hr]
  try simp
  refine (tree_t hl hlen hbd (cright_some hr)).mono ?_
  rintro v H2 ⟨hk2, x, rfl, hx2, hsib, hpos, hlv, hhc⟩
  obtain ⟨bx, t⟩ := x
  simp only at hlv hhc hsib hpos
  have hmks : kMks H2 3 [.int .i64 0] 8 (.int .i64 (c.length : Int)) (.int .i64 (c.length : Int)) = some (.slice (some ⟨H2.next, 0, none⟩) c.length c.length, H2.push (.cells (ints (List.replicate c.length 0)) 3 true)) := by
    simp only [kMks]
    rw [if_pos (by omega)]
    have : zeros [.int .i64 0] c.length = ints (List.replicate c.length 0) := by
      simp [zeros, ints]
    simp only [Int.toNat_natCast, this]
  obtain ⟨N, hN⟩ : ∃ N, N = H2.next := ⟨_, rfl⟩
  obtain ⟨H3, hH3⟩ : ∃ H3, H3 = (H2.push (.cells (ints (List.replicate c.length 0)) 3 true)).push (.cells [.slice (some ⟨N, 0, none⟩) c.length c.length] 38 true) := ⟨_, rfl⟩
  have hk3 : Kp H2.next H2 H3 := ⟨by rw [hH3]; simp; omega, fun k hk => by rw [hH3, get_old (by simp; omega), get_old hk]⟩
  have hn3 : H3.next = N + 2 := by rw [hH3, hN]; simp
  have gN : H3.get N = .cells (ints (List.replicate c.length 0)) 3 true := by rw [hH3, hN, get_old (by simp), get_last]
  have gO : H3.get (N + 1) = .cells [.slice (some ⟨N, 0, none⟩) c.length c.length] 38 true := by
    rw [hH3, hN]
    have := get_last (H := H2.push (.cells (ints (List.replicate c.length 0)) 3 true)) (b := .cells [.slice (some ⟨H2.next, 0, none⟩) c.length c.length] 38 true)
    simp
  have hx3 : Nd H3 bx t := Nd.kn (KN.kp hk3) hx2
  have hk13 := hk2.trans (hk3.mono hk2.1)
  have hmem : ∀ x ∈ t.lv, x.1 < c.length := fun x hx => (lvs_mem.1 (hlv.mem_iff.1 hx)).1
  have hH1N : H1.next ≤ N := by rw [hN]; exact hk2.1
  have hst : kSt ((H2.push (.cells (ints (List.replicate c.length 0)) 3 true)).push (.cells [.slice none 0 0] 38 true)) (.pointer (some ⟨H2.next + 1, 0, none⟩)) (.slice (some ⟨H2.next, 0, none⟩) c.length c.length) = some H3 := by
    have e1 : (H2.push (.cells (ints (List.replicate c.length 0)) 3 true)).next = H2.next + 1 := by simp
    have g := get_last (H := H2.push (.cells (ints (List.replicate c.length 0)) 3 true)) (b := .cells [.slice none 0 0] 38 true)
    rw [e1] at g
    have p := put_last (H := H2.push (.cells (ints (List.replicate c.length 0)) 3 true)) (x := .cells [.slice none 0 0] 38 true) (y := .cells [.slice (some ⟨H2.next, 0, none⟩) c.length c.length] 38 true)
    rw [e1] at p
    rw [hH3, hN]
    simp [kSt, g, oneC, p]
  simp [ptrN, hmks]
  rw [hst, ← hN]
  simp only [oH_some]
  cases t with
  | leaf w s =>
    have hx3 : H3.get bx = .cells [.int .i64 w, .int .i64 s, .int .i64 s, .pointer none, .pointer none] 124 true := hx3
    have hsl := hmem (s, w) (by simp [T.lv])
    have hsl' : s < (ints (List.replicate c.length (0 : Int))).length := by simpa [ints] using hsl
    have s1 : kSt H3 (.pointer (some ⟨N, s, none⟩)) (.int .i64 1) = some (H3.put N (.cells (ints ((List.replicate c.length (0 : Int)).set s 1)) 3 true)) := by
      simp only [kSt, gN]
      rw [if_pos (by simp [oneC]; exact hsl'), ints_set]
    have lN := lt_cells gN
    have gO2 : (H3.put N (.cells (ints ((List.replicate c.length (0 : Int)).set s 1)) 3 true)).get (N + 1) = .cells [.slice (some ⟨N, 0, none⟩) c.length c.length] 38 true := by
      rw [get_put_ne (by omega)]; exact gO
    have hok := lens_of (c := c) (xs := [(s, w, 1)]) (fun i => (hcb i).1) hlen (by simpa [T.lv] using hlv) (by simp) (.inr (by simp))
    simp [addOff, hx3, gO, hsl, s1, gO2, tup]
    exact ⟨⟨by rw [next_put]; exact hk13.1, fun k hk => by rw [get_put_ne (by omega)]; exact hk13.2 k hk⟩, .inl ⟨N, _, _, rfl, get_put_eq lN, hok, by simpa using best_leaf hlv⟩⟩
  | two o tl tr =>
    obtain ⟨bl, br, hb, hnl, hnr⟩ := hx3
    have hsh : (T.two o tl tr).ht ≤ 11 ∨ 376 < sumTo (at0 c) c.length := by
      by_cases hs : sumTo (at0 c) c.length ≤ 376
      · exact .inl (T.shallow hsib hpos (by
          have h1 := (hlv.map (·.2)).sum_nat
          rw [T.lv_w] at h1
          have h2 := lvs_sum c (fun i => (hcb i).1) c.length
          omega))
      · exact .inr (by omega)
    have hbest := best_two hlv hhc
    have h2l : 2 ≤ (lvs c c.length).length := by
      have h1 := hlv.length_eq
      have := T.lv_len tl; have := T.lv_len tr
      simp only [T.lv, List.length_append] at h1; omega
    have hht : (T.two o tl tr).ht ≤ 10000 := by
      have h1 := T.ht_lv (T.two o tl tr)
      have h2 := hlv.length_eq
      have h3 := lvs_len c c.length
      omega
    obtain ⟨t, ht⟩ : ∃ t, t = T.two o tl tr := ⟨_, rfl⟩
    have hnd : Nd H3 bx t := ht ▸ ⟨bl, br, hb, hnl, hnr⟩
    have hd1 : ∀ x ∈ t.dp 0, 1 ≤ x.2.2 := by
      rw [ht]
      intro x hx
      simp only [T.dp, List.mem_append] at hx
      rcases hx with hx | hx
      · exact (T.dp_ge _ _ x hx).1
      · exact (T.dp_ge _ _ x hx).1
    rw [← ht] at hlv hsh hht hmem
    obtain ⟨H4, hH4⟩ : ∃ H4, H4 = H3.push (.cells [.int .i64 0] 3 true) := ⟨_, rfl⟩
    have hk4 : Kp H3.next H3 H4 := hH4 ▸ Kp.push (Nat.le_refl _)
    have hw4 : Wk H4 (N + 1) N H3.next (List.replicate c.length (0 : Int)) 0 := by
      refine ⟨?_, ?_, by rw [hH4]; exact get_last, by omega⟩
      · rw [hk4.2 _ (by omega), List.length_replicate]; exact gO
      · rw [hk4.2 _ (by omega)]; exact gN
    have hwk := walk_t t bx 0 H4 _ 0 (Nd.kn (KN.kp hk4) hnd) hw4 (by rw [List.length_replicate]; exact hmem) (by omega)
    have hst4 : kSt H4 (.pointer (some ⟨H3.next, 0, none⟩)) (.int .i64 0) = some H4 := by
      have := put_last (H := H3) (x := .cells [.int .i64 0] 3 true) (y := .cells [.int .i64 0] 3 true)
      simp [kSt, hw4.d, oneC]
      rw [hH4]; exact this
    simp [addOff, hb]
    rw [← hH4, hst4]
    simp only [oH_some]
    refine Wf.mono hwk ?_
    rintro v H5 ⟨hw5, ho5⟩
    have go := hw5.o
    have gd := hw5.d
    rw [setA_len, List.length_replicate] at go
    have hk15 : Kp H1.next H1 H5 := ⟨by rw [ho5.nx]; exact Nat.le_trans hk13.1 hk4.1, fun k hk => by rw [ho5.k k (by omega) (by omega), hk4.2 k (by omega)]; exact hk13.2 k hk⟩
    by_cases hd : t.ht ≤ 11
    · have hd2 : ∀ x ∈ t.dp 0, x.2.2 ≤ 11 := fun x hx => by
        have := (T.dp_ge _ _ x hx).2; omega
      have hok := lens_of (c := c) (xs := t.dp 0) (fun i => (hcb i).1) hlen (by rw [T.dp_lv]; exact hlv) (fun x hx => ⟨hd1 x hx, hd2 x hx⟩) (.inl (T.dp_kraft t 0 (by omega)))
      rw [T.dp_ic, Nat.mul_zero, Nat.add_zero] at hok
      have hm := mxA_le (t.dp 0) 0 (by omega) hd2
      have h11 : ¬ (11 : Int) < ((mxA 0 (t.dp 0) : Nat) : Int) := by omega
      have h11' : ¬ 11 < mxA 0 (t.dp 0) := by omega
      simp [gd, h11, h11', go, tup]
      exact ⟨hk15, .inl ⟨N, _, _, rfl, hw5.n, hok, ht ▸ hbest⟩⟩
    · obtain ⟨x, hx, hxd⟩ := T.ht_dp t 0
      have hm := mxA_ge (t.dp 0) 0 x hx
      have h11 : (11 : Int) < ((mxA 0 (t.dp 0) : Nat) : Int) := by omega
      have h11' : 11 < mxA 0 (t.dp 0) := by omega
      simp [gd, h11, h11']
      refine (hflat (hsh.resolve_left hd) h2l H5 hk15).mono ?_
      rintro v H6 ⟨hk6, hP⟩
      simp [tup]
      exact ⟨hk15.trans (hk6.mono hk15.1), .inr ⟨v, rfl, hP⟩⟩
end
end Go.Proofs.Ytlboioplemlneaa.K
/- The flattest codes, plainly: the heaviest ones have one bit less, as many as there is room for. -/
set_option maxRecDepth 100000
set_option maxHeartbeats 1000000
set_option linter.unusedVariables false
set_option linter.unusedSimpArgs false
namespace Go.Proofs.Ytlboioplemlneaa.K
open Go Go.Proofs
theorem wd_bd : ∀ x : Fin 256, 0 < x.val → 2 ^ (wd x.val - 1) ≤ x.val ∧ x.val < 2 ^ (wd x.val) ∧ 1 ≤ wd x.val ∧ wd x.val ≤ 8 := by decide +kernel
def flx (long short : Nat) : Nat → List (Nat × Nat) → List Sd
  | _, [] => []
  | i, x :: xs => (x.1, x.2, if i < short then long - 1 else long) :: flx long short (i + 1) xs
theorem flx_app (long short : Nat) : ∀ (xs ys : List (Nat × Nat)) (i : Nat), flx long short i (xs ++ ys) = flx long short i xs ++ flx long short (i + xs.length) ys
  | [], ys, i => by simp [flx]
  | x :: xs, ys, i => by simp only [List.cons_append, flx, flx_app long short xs ys, List.length_cons]; rw [show i + (xs.length + 1) = i + 1 + xs.length by omega]
theorem flx_sw (long short : Nat) : ∀ (xs : List (Nat × Nat)) (i : Nat), (flx long short i xs).map (fun x => (x.1, x.2.1)) = xs
  | [], i => rfl
  | x :: xs, i => by simp only [flx, List.map_cons, flx_sw long short xs]
theorem flx_len (long short : Nat) : ∀ (xs : List (Nat × Nat)) (i : Nat), (flx long short i xs).length = xs.length
  | [], i => rfl
  | x :: xs, i => by simp only [flx, List.length_cons, flx_len long short xs]
theorem flx_d {long short : Nat} (h1 : 2 ≤ long ∨ short = 0 ∧ 1 ≤ long) : ∀ (xs : List (Nat × Nat)) (i : Nat), ∀ x ∈ flx long short i xs, 1 ≤ x.2.2 ∧ x.2.2 ≤ long
  | [], i, x, h => by simp [flx] at h
  | y :: xs, i, x, h => by
    simp only [flx, List.mem_cons] at h
    rcases h with rfl | h
    · simp only; split <;> omega
    · exact flx_d h1 xs _ x h
theorem flx_krf {long short : Nat} (h1 : 1 ≤ long) (h2 : long ≤ 11) : ∀ (xs : List (Nat × Nat)) (i : Nat), ((flx long short i xs).map (fun x => 2 ^ (11 - x.2.2))).sum = 2 ^ (11 - long) * (xs.length + (min (i + xs.length) short - i))
  | [], i => by simp only [flx, List.map_nil, List.sum_nil, List.length_nil, Nat.add_zero, Nat.zero_add]; rw [show min i short - i = 0 by omega, Nat.mul_zero]
  | x :: xs, i => by
    simp only [flx, List.map_cons, List.sum_cons, flx_krf h1 h2 xs, List.length_cons]
    split
    · have e : 2 ^ (11 - (long - 1)) = 2 ^ (11 - long) * 2 := by rw [← Nat.pow_succ]; congr 1; omega
      rw [e, ← Nat.mul_add]; congr 1; omega
    · have e : ∀ P X : Nat, P + P * X = P * (1 + X) := fun P X => by rw [Nat.mul_add, Nat.mul_one]
      rw [e]
      congr 1; omega
theorem flx_cost {long short : Nat} (h1 : 1 ≤ long) : ∀ (xs : List (Nat × Nat)) (i : Nat), ((flx long short i xs).map (fun x => x.2.1 * x.2.2)).sum + ((xs.map (·.2)).take (short - i)).sum = (xs.map (·.2)).sum * long
  | [], i => by simp [flx]
  | x :: xs, i => by
    have ih := flx_cost h1 (short := short) xs (i + 1)
    simp only [flx, List.map_cons, List.sum_cons, Nat.add_mul]
    split
    · obtain ⟨L, rfl⟩ : ∃ L, long = L + 1 := ⟨long - 1, by omega⟩
      rw [show short - i = (short - (i + 1)) + 1 by omega, List.take_succ_cons, List.sum_cons, Nat.add_sub_cancel]
      rw [Nat.mul_add x.2 L 1, Nat.mul_one]
      omega
    · rw [show short - i = 0 by omega] at *
      rw [show short - (i + 1) = 0 by omega] at ih
      simp only [List.take_zero, List.sum_nil, Nat.add_zero] at ih ⊢
      omega
/-- the cost of the flattest codes of weights that fall -/
def flatC (W : List Nat) : Nat := W.sum * wd (W.length - 1) - (W.take (2 ^ wd (W.length - 1) - W.length)).sum
theorem take_sum_le : ∀ (l : List Nat) (n : Nat), (l.take n).sum ≤ l.sum
  | [], n => by simp
  | x :: l, 0 => by simp
  | x :: l, n + 1 => by have := take_sum_le l n; simp; omega
/-- two lists that fall, of the same numbers, are one -/
theorem fall_eq {L1 L2 : List Nat} (h1 : L1.Pairwise (fun a b => b ≤ a)) (h2 : L2.Pairwise (fun a b => b ≤ a)) (hp : L1.Perm L2) : L1 = L2 :=
  List.Perm.eq_of_pairwise (le := fun a b => b ≤ a) (fun a b _ _ h h' => Nat.le_antisymm h' h) h1 h2 hp
/-- heavier by a weight -/
def ltBy (f : Nat → Nat) (x y : Nat) : Bool := decide (f y < f x)
theorem ltBy_ord (f : Nat → Nat) : Ord (ltBy f) := ⟨fun x y h => by simp [ltBy] at *; omega, fun x y z h1 h2 => by simp [ltBy] at *; omega⟩
theorem srt_fall {f : Nat → Nat} {l : Array Nat} (h : Srt (ltBy f) l 0 l.size) : (l.toList.map f).Pairwise (fun a b => b ≤ a) := by
  rw [List.pairwise_iff_getElem]
  intro i j hi hj hij
  have hi' : i < l.size := by simpa using hi
  have hj' : j < l.size := by simpa using hj
  have := h i j (Nat.zero_le _) hij hj'
  simp only [ltBy, decide_eq_false_iff_not, Nat.not_lt] at this
  have a1 : ix l i = l[i] := ix_of (Array.getElem?_eq_getElem hi')
  have a2 : ix l j = l[j] := ix_of (Array.getElem?_eq_getElem hj')
  simpa [a1, a2] using this
/-- the lengths of flat codes, by symbols whose weights fall -/
theorem flat_ok {c : List Int} (hc : ∀ i, 0 ≤ at0 c i) (hcl : c.length ≤ 256) {xs : List (Nat × Nat)} (hp : xs.Perm (lvs c c.length)) (h2 : 2 ≤ xs.length) {long short : Nat} (hlong : long = wd (xs.length - 1)) (hshort : short = 2 ^ long - xs.length)
    (hfall : (xs.map (·.2)).Pairwise (fun a b => b ≤ a)) :
    LenOk c (setA (List.replicate c.length 0) (flx long short 0 xs)) (flatC (xs.map (·.2)) : Nat) ∧ ∀ B, BestIs c B → B ≤ flatC (xs.map (·.2)) := by
  have hlen : xs.length ≤ 256 := by have := hp.length_eq; have := lvs_len c c.length; omega
  obtain ⟨b1, b2, b3, b4⟩ := wd_bd ⟨xs.length - 1, by omega⟩ (by simp; omega)
  simp only [← hlong] at b1 b2 b3 b4
  have e2 : 2 ^ long = 2 * 2 ^ (long - 1) := by
    obtain ⟨L, rfl⟩ : ∃ L, long = L + 1 := ⟨long - 1, by omega⟩
    rw [Nat.add_sub_cancel, Nat.pow_succ]; omega
  have hsh : 2 ≤ long ∨ short = 0 ∧ 1 ≤ long := by
    by_cases h : long = 1
    · subst h; right; omega
    · left; omega
  have hd := flx_d hsh xs 0
  have hk : ((flx long short 0 xs).map (fun x => 2 ^ (11 - x.2.2))).sum = 2048 := by
    rw [flx_krf b3 (by omega)]
    rw [show xs.length + (min (0 + xs.length) short - 0) = 2 ^ long by omega, ← Nat.pow_add, show 11 - long + long = 11 by omega]
  have hcost : ((flx long short 0 xs).map (fun x => x.2.1 * x.2.2)).sum = flatC (xs.map (·.2)) := by
    have := flx_cost (long := long) (short := short) b3 xs 0
    unfold flatC
    rw [List.length_map, ← hlong, ← hshort]
    rw [Nat.sub_zero] at this
    omega
  have hok := lens_of (c := c) (xs := flx long short 0 xs) hc hcl (by rw [flx_sw]; exact hp) (fun x hx => ⟨(hd x hx).1, by have := (hd x hx).2; omega⟩) (.inl hk)
  rw [hcost] at hok
  refine ⟨hok, fun B hB => ?_⟩
  rcases hB with ⟨s, h⟩ | ⟨_, hB⟩
  · have := hp.length_eq; rw [h] at this; simp at this; omega
  · have hm := hB.min 11 ((flx long short 0 xs).map (fun x => (x.2.1, x.2.2))) (by
      rw [List.map_map]
      have : ((flx long short 0 xs).map ((fun x => x.1) ∘ fun x => (x.2.1, x.2.2))) = ((flx long short 0 xs).map (fun x => (x.1, x.2.1))).map (·.2) := by rw [List.map_map]; rfl
      rw [this, flx_sw]
      exact hp.map _) (fun x hx => by
      obtain ⟨y, hy, rfl⟩ := List.mem_map.1 hx
      have := (hd y hy).2
      simp only; omega) (by
      unfold krf; rw [List.map_map]; exact hk)
    unfold cst at hm
    rw [List.map_map] at hm
    rw [← hcost]
    exact hm
end Go.Proofs.Ytlboioplemlneaa.K
