/- Numbers and texts in groups: the document's bytes, and what the program reads. -/
import Derived.Test.YtlboioplemlneaaPCurA
import Derived.Test.YtlboioplemlneaaPGrp
set_option maxRecDepth 100000
set_option maxHeartbeats 2000000
set_option linter.unusedVariables false
set_option linter.unusedSimpArgs false
namespace Go.Proofs.Ytlboioplemlneaa.K
open Go Go.Proofs
theorem wu8' {x : Int} (h0 : 0 ≤ x) (h1 : x < 256) : IntKind.u8.wrap x = x := by
  simp [IntKind.wrap, IntKind.signed, IntKind.bits]; omega
theorem pow128_2 (i : Nat) : 128 ^ i = 2 ^ (7 * i) := by rw [show (128 : Nat) = 2 ^ 7 from by decide, ← Nat.pow_mul]
section
variable {H : Heap} {b : Nat} {l : Bytes} {bad : Bool}
structure RgI (H0 : Heap) (v0 : Nat) (d : Nat) (e : Fe) (H : Heap) (v : Nat) : Prop where
  h1 : d = v
  h2 : v < 18446744073709551616
  kp : Kp H0.next H0 H
  p : ∃ p, e 3 = .string (ofL p) ∧ p ++ grp v = grp v0
  e0 : e 0 = .int .u64 (v : Int)
theorem one_text {H : Heap} {K : Kv} {x : Nat} (hx : x < 256) : run S (.b2s 5 (.c (.slice (some ⟨H.next, 0, none⟩) 1 1))) [] (H.push (.cells [.int .u8 x] 5 true)) K = K (.string (ofL [UInt8.ofNat x])) (H.push (.cells [.int .u8 x] 5 true)) := by
  have hn : (UInt8.ofNat x).toNat = x := by simp; omega
  have : kRow (H.push (.cells [.int .u8 x] 5 true)) 5 1 [UInt8.ofNat x].length (some ⟨H.next, 0, none⟩) = some (bvs [UInt8.ofNat x]) := by
    simp [kRow, rd, bvs, bv, hn]
  exact s_b2s this
theorem rGroup_t (v : Nat) (hv : v < 18446744073709551616) : Wf S 50 [.int .u64 v] H fun r H' => Kp H.next H H' ∧ r = .string (ofL (grp v)) := by
  refine w50 rfl rfl _ ?_
  simp [s50]
  refine l50_0 S (fun d e H' => ∃ u, RgI H v d e H' u) v ⟨v, rfl, hv, Kp.refl _ _, ⟨[], by simp [bs_ofL], rfl⟩, by simp⟩ ?_
  rintro d e H' ⟨u, rfl, hu, hk, ⟨p, e3, hp⟩, e0⟩
  have hgl := grp_len10 (v := v) (by omega)
  have hll := congrArg List.length hp
  have hgp := grp_len_pos d
  rw [List.length_append] at hll
  by_cases h3 : 128 ≤ d
  · obtain ⟨q, hq⟩ : ∃ q, q = d % 128 := ⟨_, rfl⟩
    obtain ⟨x, hx⟩ : ∃ x, x = d % 128 + 128 := ⟨_, rfl⟩
    obtain ⟨y, hy⟩ : ∃ y, y = d / 128 := ⟨_, rfl⟩
    have t1 : (d : Int).tmod 128 = (q : Int) := by rw [Int.tmod_eq_emod_of_nonneg (by omega)]; omega
    have t2 : (d : Int).tdiv 128 = (y : Int) := by rw [Int.tdiv_eq_ediv_of_nonneg (by omega)]; omega
    have w1 : IntKind.u64.wrap ((q : Int) + 128) = (x : Int) := by rw [wu64 (by omega) (by omega)]; omega
    have w2 : IntKind.u8.wrap (x : Int) = (x : Int) := wu8' (by omega) (by omega)
    have w3 : IntKind.u64.wrap (y : Int) = (y : Int) := wu64 (by omega) (by omega)
    have ho := fun K => one_text (H := H') (K := K) (x := x) (by omega)
    have ha := s_add (l := p) (m := [UInt8.ofNat x]) (by simp; omega)
    have h3' : (128 : Int) ≤ d := by omega
    simp [s50_0, e0, e3, h3', t1, t2, w1, w2, w3, kFill, evPs, isTup, cellsL, wr, ho, ha]
    refine ⟨y, by omega, y, rfl, by omega, hk.trans (Kp.push hk.1), ⟨p ++ [UInt8.ofNat x], by simp, ?_⟩, by simp⟩
    rw [← hp, grp_high (v := d) (by omega), ← hx, ← hy]; simp
  · have h3' : ¬ (128 : Int) ≤ d := by omega
    have w2 : IntKind.u8.wrap (d : Int) = (d : Int) := wu8' (by omega) (by omega)
    have ho := fun K => one_text (H := H') (K := K) (x := d) (by omega)
    have ha := s_add (l := p) (m := [UInt8.ofNat d]) (by simp; omega)
    simp [s50_0, e0, e3, h3', w2, kFill, evPs, isTup, cellsL, wr, ho, ha]
    refine ⟨hk.trans (Kp.push hk.1), ?_⟩
    rw [← hp, grp_low (v := d) (by omega)]
/-- a text, with how many bytes it has ahead -/
def txt (s : Bytes) : Bytes := grp s.length ++ s
theorem rText_t (s : Bytes) (hs : (s.length : Int) ≤ 4611686018427387904) : Wf S 51 [.string (ofL s)] H fun r H' => Kp H.next H H' ∧ r = .string (ofL (txt s)) := by
  refine w51 rfl rfl _ ?_
  have w1 : IntKind.u64.wrap (s.length : Int) = (s.length : Int) := wu64 (by omega) (by omega)
  simp [s51, ofL_size, w1]
  refine (rGroup_t s.length (by omega)).mono ?_
  rintro v H1 ⟨hk, rfl⟩
  have hgl := grp_len10 (v := s.length) (by omega)
  have ha := s_add (l := grp s.length) (m := s) (by omega)
  simp [ha]
  exact ⟨hk, rfl⟩
/-- what a reader gives of a number in groups, and what it is then -/
def grpOut (l : Bytes) (bad : Bool) : Option (Nat × Bytes) := if bad = true then none else pG 0 l
def gvN (o : Option (Nat × Bytes)) : Nat := match o with | some p => p.1 | none => 0
def grL (o : Option (Nat × Bytes)) : Bytes := match o with | some p => p.2 | none => []
structure GrI (H0 : Heap) (b : Nat) (l : Bytes) (d : Nat) (e : Fe) (H : Heap) (i : Nat) : Prop where
  h1 : i ≤ 9
  h2 : d = 10 - i
  h3 : i ≤ l.length
  a : ∃ acc : Nat, e 3 = .int .u64 (acc : Int) ∧ acc < 128 ^ i ∧ pG 0 l = (pG i (l.drop i)).map fun p : Nat × Bytes => (acc + 128 ^ i * p.1, p.2)
  hH : H = H0.put b (RdB (l.drop i) false)
  e0 : e 0 = .pointer (some ⟨b, 0, none⟩)
  e7 : e 7 = .int .i64 i
theorem pG_ten : ∀ (s : Bytes), pG 10 s = none → True := fun _ _ => trivial
theorem Group_t (h : Rd H b l bad) : Wf S 125 [.pointer (some ⟨b, 0, none⟩)] H fun v H' => v = .int .u64 (gvN (grpOut l bad)) ∧ H' = H.put b (RdB (grL (grpOut l bad)) (grpOut l bad).isNone) := by
  have hlt := h.lt
  refine w125 rfl rfl _ ?_
  simp [s125]
  cases bad with
  | true =>
    refine u125_0 S ?_
    simp [s125_0]
    refine (Raw_t h 1).mono ?_
    rintro v H1 ⟨rfl, rfl⟩
    simp [rawOut, rawL, rawB, grpOut, gvN, grL, bs_ofL, s_eql]
  | false =>
    have hp : H = H.put b (RdB (l.drop 0) false) := (put_same h).symm
    refine l125_0 S (fun d e H' => ∃ i, GrI H b l d e H' i) 10 ⟨0, by omega, by omega, by omega, ⟨0, by simp, by simp, by rw [List.drop_zero]; cases pG 0 l with | none => rfl | some p => simp⟩, hp, by simp, by simp⟩ ?_
    rintro d e H' ⟨i, hi, rfl, hil, ⟨acc, e3, hacc, hpg⟩, rfl, e0, e7⟩
    have hrd : Rd (H.put b (RdB (l.drop i) false)) b (l.drop i) false := rd_put hlt
    have h3' : (i : Int) < 10 := by omega
    have w2 : IntKind.i64.wrap ((i : Int) + 1) = (i : Int) + 1 := wi (by omega) (by omega)
    simp [s125_0, e0, e3, e7, h3']
    refine (Raw_t hrd 1).mono ?_
    rintro v H1 ⟨rfl, rfl⟩
    rw [put_put]
    rcases Nat.lt_or_ge i l.length with hlen | hlen
    · obtain ⟨x, hx⟩ : ∃ x, l[i]? = some x := ⟨_, List.getElem?_eq_getElem hlen⟩
      have hd : l.drop i = x :: l.drop (i + 1) := by
        rw [List.drop_eq_getElem_cons hlen]
        have := List.getElem?_eq_getElem hlen
        rw [hx] at this; cases this; rfl
      have hxb := x.toNat_lt
      have r1 : rawOut (l.drop i) false 1 = [x] := by simp [rawOut, hd]
      have r2 : rawL (l.drop i) false 1 = l.drop (i + 1) := by simp [rawL, hd]
      have r3 : rawB (l.drop i) false 1 = false := by simp [rawB, hd]
      have e1 : (1 : Int).toNat = 1 := rfl
      rw [e1, r1, r2, r3]
      rw [hd] at hpg
      obtain ⟨c, hc⟩ : ∃ c, c = x.toNat := ⟨_, rfl⟩
      rw [← hc] at hxb
      have hat : ∀ (K : Kv) (H : Heap), run S (.idS (.c (.string (ofL [x]))) (.c (.int .i64 0))) [] H K = K (.int .u8 (c : Int)) H := fun K H => by
        have := s_at (S := S) (e := []) (H := H) (K := K) (l := [x]) (k := .i64) (i := 0) (b := x) rfl
        rw [hc]; exact this
      have wc : IntKind.u64.wrap (c : Int) = c := wu64 (by omega) (by omega)
      have hne : ((ofL [x]).toList == (ofL []).toList) = false := by rw [toList_ofL, toList_ofL]; rfl
      have hrd2 : Rd (H.put b (RdB (l.drop (i + 1)) false)) b (l.drop (i + 1)) false := rd_put hlt
      simp only [pG] at hpg
      rw [← hc] at hpg
      -- the byte's own part
      obtain ⟨m, hm⟩ : ∃ m, m = c % 128 := ⟨_, rfl⟩
      have oa : kBin .and (.int .u64 (c : Int)) (.int .u64 127) = some (.int .u64 (m : Int)) := by
        have h := kb_andN (k := .u64) (a := c) (b := 127) (by show c < 2 ^ 64; omega) (by decide)
        have e : c &&& 127 = m := by rw [hm]; exact and_low c 7
        rw [e, wu64 (by omega) (by omega)] at h
        exact h
      have wm : IntKind.i64.wrap (7 * (i : Int)) = ((7 * i : Nat) : Int) := by rw [wi (by omega) (by omega)]; omega
      have hib : min (7 * i) IntKind.u64.bits = 7 * i := by
        have : IntKind.u64.bits = 64 := rfl
        omega
      rw [pow128_2] at hacc
      have fit : (i = 9 → c ≤ 1) → m * 2 ^ (7 * i) + 2 ^ (7 * i) ≤ 18446744073709551616 := fun hh => by
        have e64 : (2 : Nat) ^ 64 = 18446744073709551616 := by decide
        by_cases e : i = 9
        · subst e
          have : m ≤ 1 := by have := hh rfl; omega
          have e63 : (2 : Nat) ^ (7 * 9) = 9223372036854775808 := by decide
          rw [e63]; omega
        · have h1 : (m + 1) * 2 ^ (7 * i) ≤ 128 * 2 ^ (7 * i) := Nat.mul_le_mul_right _ (by omega)
          have h2 : 128 * 2 ^ (7 * i) = 2 ^ (7 * i + 7) := by rw [Nat.pow_add]; omega
          have h3 : 2 ^ (7 * i + 7) ≤ 2 ^ 64 := Nat.pow_le_pow_right (by omega) (by omega)
          rw [Nat.succ_mul] at h1; omega
      have os : (i = 9 → c ≤ 1) → kBin .shl (.int .u64 (m : Int)) (.int .i64 ((7 * i : Nat) : Int)) = some (.int .u64 ((m * 2 ^ (7 * i) : Nat) : Int)) := fun hh => by
        have := fit hh
        have hp0 : 0 < 2 ^ (7 * i) := Nat.pow_pos (by omega)
        rw [kb_shl, if_neg (by omega), Int.toNat_natCast, hib]
        have e : (m : Int) * 2 ^ (7 * i) = ((m * 2 ^ (7 * i) : Nat) : Int) := by exact_mod_cast rfl
        rw [e, wu64 (by omega) (by omega)]
      have oo : (i = 9 → c ≤ 1) → kBin .or (.int .u64 (acc : Int)) (.int .u64 ((m * 2 ^ (7 * i) : Nat) : Int)) = some (.int .u64 ((acc + m * 2 ^ (7 * i) : Nat) : Int)) := fun hh => by
        have := fit hh
        have hp0 : 0 < 2 ^ (7 * i) := Nat.pow_pos (by omega)
        rw [kb_orN (by show _ < 2 ^ 64; omega) (by show _ < 2 ^ 64; omega), or_high hacc, wu64 (by omega) (by omega)]
      obtain ⟨q, hq⟩ : ∃ q, q = 7 * i := ⟨_, rfl⟩
      have hpw : 128 ^ i = 2 ^ q := by rw [pow128_2, hq]
      rw [← hq] at wm os oo hacc
      rw [hpw] at hpg
      obtain ⟨y, hy⟩ : ∃ y, y = m * 2 ^ q := ⟨_, rfl⟩
      rw [← hy] at os oo
      obtain ⟨z, hz⟩ : ∃ z, z = acc + y := ⟨_, rfl⟩
      rw [← hz] at oo
      by_cases i9 : (i : Int) = 9
      · have i9' : i = 9 := by omega
        subst i9'
        have w63 : IntKind.i64.wrap 63 = 63 := by decide
        by_cases c1 : (1 : Int) < c
        · rw [if_pos (by omega)] at hpg
          have hgo : grpOut l false = none := by simpa [grpOut] using hpg
          rw [hgo]
          have c1' : 1 < c := by omega
          simp [bs_ofL, hne, hat, wc, c1, c1', e0]
          refine (fail_t hrd2).mono ?_
          rintro v H2 rfl
          rw [put_put]
          simp [gvN, grL]
        · by_cases c0 : (c : Int) = 0
          · rw [if_pos (by omega)] at hpg
            have hgo : grpOut l false = none := by simpa [grpOut] using hpg
            rw [hgo]
            have c0' : c = 0 := by omega
            have wz : IntKind.u64.wrap 0 = 0 := by decide
            simp [bs_ofL, hne, hat, wc, wz, c1, c0', e0]
            refine (fail_t hrd2).mono ?_
            rintro v H2 rfl
            rw [put_put]
            simp [gvN, grL]
          · rw [if_neg (by omega), if_pos (by omega)] at hpg
            have c0' : ¬ c = 0 := by omega
            have c1' : ¬ 1 < c := by omega
            have c2 : c < 128 := by omega
            have c2' : (c : Int) < 128 := by omega
            have os := os (fun _ => by omega)
            have oo := oo (fun _ => by omega)
            have os63 : kBin .shl (.int .u64 (m : Int)) (.int .i64 63) = some (.int .u64 (y : Int)) := by
              have h := os
              rw [hq] at h
              exact h
            have hgo : grpOut l false = some (z, l.drop (9 + 1)) := by
              have : m = c := by omega
              simp only [grpOut, Bool.false_eq_true, if_false, hpg, Option.map_some, hz, hy, this, Nat.mul_comm (2 ^ q)]
            rw [hgo]
            simp [bs_ofL, hne, hat, wc, c1, c1', c0', c2, c2', oa, w63, os63, oo, e3]
            simp [gvN, grL]
      · by_cases c0 : 0 < i ∧ c = 0
        · rw [if_pos (by omega)] at hpg
          have hgo : grpOut l false = none := by simpa [grpOut] using hpg
          rw [hgo]
          obtain ⟨c0', c0⟩ := c0
          have wz : IntKind.u64.wrap 0 = 0 := by decide
          simp [bs_ofL, hne, hat, wc, wz, i9, c0, c0', e0]
          refine (fail_t hrd2).mono ?_
          rintro v H2 rfl
          rw [put_put]
          simp [gvN, grL]
        · rw [if_neg (by omega)] at hpg
          have hcc : (decide (0 < i) && decide (c = 0)) = false := by simp only [Bool.and_eq_false_iff, decide_eq_false_iff_not]; omega
          have os := os (fun e => by omega)
          have oo := oo (fun e => by omega)
          by_cases c2 : c < 128
          · rw [if_pos c2] at hpg
            have c2' : (c : Int) < 128 := by omega
            have hgo : grpOut l false = some (z, l.drop (i + 1)) := by
              have : m = c := by omega
              simp only [grpOut, Bool.false_eq_true, if_false, hpg, Option.map_some, hz, hy, this, Nat.mul_comm (2 ^ q)]
            rw [hgo]
            by_cases i0 : 0 < i
            · have c0' : ¬ c = 0 := by omega
              simp [bs_ofL, s_eql, hne, hat, wc, i9, i0, c0', c2, c2', oa, wm, os, oo, e3, e7]
              simp [gvN, grL]
            · simp [bs_ofL, s_eql, hne, hat, wc, i9, i0, c2, c2', oa, wm, os, oo, e3, e7]
              simp [gvN, grL]
          · rw [if_neg c2] at hpg
            have c2' : ¬ (c : Int) < 128 := by omega
            have c0' : ¬ c = 0 := by omega
            have fin : GrI H b l (10 - (i + 1)) e H (i + 1) → True := fun _ => trivial
            have hzb : z < 128 ^ (i + 1) := by
              have h1 : (m + 1) * 2 ^ q ≤ 128 * 2 ^ q := Nat.mul_le_mul_right _ (by omega)
              rw [Nat.pow_succ, hpw, Nat.mul_comm (2 ^ q)]
              rw [Nat.succ_mul] at h1; omega
            have hpz : pG 0 l = (pG (i + 1) (l.drop (i + 1))).map fun p : Nat × Bytes => (z + 128 ^ (i + 1) * p.1, p.2) := by
              rw [hpg, Option.map_map]
              congr 1
              funext p
              simp only [Function.comp, Prod.mk.injEq, and_true]
              rw [Nat.pow_succ, hpw, hz, hy, ← hm, Nat.mul_add, Nat.mul_comm (2 ^ q) m, Nat.mul_assoc]; omega
            have : ∀ i0 : Prop, True := fun _ => trivial
            by_cases i0 : 0 < i
            · simp [bs_ofL, s_eql, hne, hat, wc, i9, i0, c0', c2, c2', oa, wm, os, oo, e3, e7, w2]
              exact ⟨10 - (i + 1), by omega, i + 1, by omega, rfl, by omega, ⟨z, by simp, hzb, hpz⟩, rfl, by simp [e0], by simp⟩
            · simp [bs_ofL, s_eql, hne, hat, wc, i9, i0, c2, c2', oa, wm, os, oo, e3, e7, w2]
              exact ⟨10 - (i + 1), by omega, i + 1, by omega, rfl, by omega, ⟨z, by simp, hzb, hpz⟩, rfl, by simp [e0], by simp⟩
    · have hd : l.drop i = [] := List.drop_of_length_le hlen
      rw [hd] at hpg ⊢
      have hgo : grpOut l false = none := by simpa [grpOut, pG] using hpg
      rw [hgo]
      simp [rawOut, rawL, rawB, gvN, grL, bs_ofL, s_eql]
end
end Go.Proofs.Ytlboioplemlneaa.K
