/- Numbers in groups, plainly: what is written, and what is read of bytes. -/
import Derived.Test.YtlboioplemlneaaGreatKF3
import Derived.Test.YtlboioplemlneaaGreatPA
import Derived.Test.YtlboioplemlneaaGreatKLowSh3
set_option maxRecDepth 100000
set_option maxHeartbeats 2000000
set_option linter.unusedVariables false
namespace Go.Proofs.YtlboioplemlneaaGreat.K
open Go
/-- a number in groups -/
def grp (v : Nat) : Bytes := if v < 128 then [UInt8.ofNat v] else UInt8.ofNat (v % 128 + 128) :: grp (v / 128)
termination_by v
decreasing_by omega
theorem grp_low {v : Nat} (h : v < 128) : grp v = [UInt8.ofNat v] := by rw [grp, if_pos h]
theorem grp_high {v : Nat} (h : ¬ v < 128) : grp v = UInt8.ofNat (v % 128 + 128) :: grp (v / 128) := by rw [grp, if_neg h]
/-- the number in groups at the beginning, from its byte i on, and what stands behind -/
def pG : Nat → Bytes → Option (Nat × Bytes)
  | _, [] => none
  | i, b :: t => if (i = 9 ∧ 1 < b.toNat) ∨ (0 < i ∧ b.toNat = 0) then none
    else if b.toNat < 128 then some (b.toNat, t) else (pG (i + 1) t).map fun p => (b.toNat % 128 + 128 * p.1, p.2)
theorem pow128 (n : Nat) : 0 < 128 ^ n := Nat.pow_pos (by omega)
/-- what is read is what was written -/
theorem pG_grp : ∀ (s : Bytes) (i v : Nat) (t : Bytes), pG i s = some (v, t) → s = grp v ++ t ∧ (0 < i → 0 < v)
  | [], i, v, t, h => by simp [pG] at h
  | b :: s, i, v, t, h => by
    have hb := b.toNat_lt
    simp only [pG] at h
    split at h
    · cases h
    · rename_i hc
      split at h
      · rename_i hl
        simp only [Option.some.injEq, Prod.mk.injEq] at h
        obtain ⟨rfl, rfl⟩ := h
        refine ⟨?_, fun hi => by omega⟩
        rw [grp_low hl]; simp
      · rename_i hl
        simp only [Option.map_eq_some_iff, Prod.mk.injEq] at h
        obtain ⟨⟨w, r⟩, h1, h2, h3⟩ := h
        obtain ⟨q1, q2⟩ := pG_grp s (i + 1) w r h1
        have := q2 (by omega)
        subst h2; subst h3
        refine ⟨?_, fun _ => by omega⟩
        have e1 : (b.toNat % 128 + 128 * w) / 128 = w := by omega
        have e2 : (b.toNat % 128 + 128 * w) % 128 + 128 = b.toNat := by omega
        rw [grp_high (by omega), e1, e2, List.cons_append, ← q1]; simp
/-- what was written is read -/
theorem grp_pG : ∀ (v i : Nat) (t : Bytes), i ≤ 9 → v * 128 ^ i < 2 ^ 64 → (0 < i → 0 < v) → pG i (grp v ++ t) = some (v, t) := by
  intro v
  induction v using Nat.strongRecOn with
  | _ v ih =>
    intro i t hi hv hp
    have hpw := pow128 i
    have h9 : i = 9 → v < 2 := by
      intro e; subst e
      have e1 : (128 : Nat) ^ 9 = 9223372036854775808 := by decide
      have e2 : (2 : Nat) ^ 64 = 18446744073709551616 := by decide
      rw [e1, e2] at hv; omega
    by_cases h : v < 128
    · have hn : (UInt8.ofNat v).toNat = v := by simp; omega
      rw [grp_low h]
      simp only [List.cons_append, List.nil_append, pG, hn]
      rw [if_neg (by omega), if_pos h]
    · have hn : (UInt8.ofNat (v % 128 + 128)).toNat = v % 128 + 128 := by simp; omega
      rw [grp_high h]
      simp only [List.cons_append, pG, hn]
      have hi9 : i ≠ 9 := fun e => by have := h9 e; omega
      rw [if_neg (by omega), if_neg (by omega)]
      have hle : v / 128 * 128 ^ (i + 1) ≤ v * 128 ^ i := by
        rw [Nat.pow_succ, ← Nat.mul_assoc, Nat.mul_right_comm]
        exact Nat.mul_le_mul_right _ (Nat.div_mul_le_self v 128)
      rw [ih (v / 128) (by omega) (i + 1) t (by omega) (by omega) (by omega)]
      simp only [Option.map_some, Option.some.injEq, Prod.mk.injEq, and_true]
      omega
theorem grp_len_pos (v : Nat) : 0 < (grp v).length := by
  by_cases h : v < 128
  · rw [grp_low h]; simp
  · rw [grp_high h]; simp
theorem grp_len : ∀ (k v : Nat), v < 128 ^ k → 0 < k → (grp v).length ≤ k
  | 0, v, h, h0 => by omega
  | k + 1, v, h, _ => by
    by_cases hv : v < 128
    · rw [grp_low hv]; simp
    · rw [grp_high hv, List.length_cons]
      have : v / 128 < 128 ^ k := by
        rw [Nat.div_lt_iff_lt_mul (by omega), ← Nat.pow_succ]; exact h
      have hk : 0 < k := by
        rcases Nat.eq_zero_or_pos k with h0 | h0
        · subst h0; simp at this; omega
        · exact h0
      have := grp_len k (v / 128) this hk
      omega
theorem grp_len10 {v : Nat} (h : v < 2 ^ 64) : (grp v).length ≤ 10 := grp_len 10 v (by
  have : (2 : Nat) ^ 64 ≤ 128 ^ 10 := by decide
  omega) (by omega)
theorem pG_lt {s : Bytes} {i v : Nat} {t : Bytes} : pG i s = some (v, t) → i ≤ 9 → v * 128 ^ i < 2 ^ 64 := by
  induction s generalizing i v t with
  | nil => intro h; simp [pG] at h
  | cons b s ih =>
    intro h hi
    have hb := b.toNat_lt
    simp only [pG] at h
    split at h
    · cases h
    · rename_i hc
      split at h
      · rename_i hl
        simp only [Option.some.injEq, Prod.mk.injEq] at h
        obtain ⟨rfl, rfl⟩ := h
        have hd : ∀ j : Nat, j ≤ 9 → ∀ c, (j = 9 → c ≤ 1) → c < 128 → c * 128 ^ j < 2 ^ 64 := by
          intro j hj c h1 h2
          by_cases e : j = 9
          · subst e
            have : c ≤ 1 := h1 rfl
            have e1 : (128 : Nat) ^ 9 = 9223372036854775808 := by decide
            have e2 : (2 : Nat) ^ 64 = 18446744073709551616 := by decide
            rw [e1, e2]; omega
          · have h3 : 128 ^ j ≤ 128 ^ 8 := Nat.pow_le_pow_right (by omega) (by omega)
            have e1 : (128 : Nat) ^ 8 = 72057594037927936 := by decide
            have e2 : (2 : Nat) ^ 64 = 18446744073709551616 := by decide
            have h4 : c * 128 ^ j ≤ 127 * 128 ^ 8 := Nat.mul_le_mul (by omega) h3
            rw [e1] at h4
            rw [e2]; omega
        exact hd i hi _ (fun e => by omega) hl
      · rename_i hl
        simp only [Option.map_eq_some_iff, Prod.mk.injEq] at h
        obtain ⟨⟨w, r⟩, h1, h2, h3⟩ := h
        have hi9 : i ≠ 9 := fun e => hc (.inl ⟨e, by omega⟩)
        have := ih h1 (by omega)
        subst h2
        rw [Nat.pow_succ] at this
        have e2 : (2 : Nat) ^ 64 = 128 ^ i * (2 ^ (64 - 7 * i)) := by
          rw [show (128 : Nat) = 2 ^ 7 from by decide, ← Nat.pow_mul, ← Nat.pow_add]; congr 1; omega
        have e3 : (2 : Nat) ^ (64 - 7 * i) = 128 * 2 ^ (57 - 7 * i) := by
          rw [show (128 : Nat) = 2 ^ 7 from by decide, ← Nat.pow_add]; congr 1; omega
        have hpw := pow128 i
        rw [e2, e3] at this ⊢
        have h4 : w < 2 ^ (57 - 7 * i) := by
          have h5 : (w * 128) * 128 ^ i < (2 ^ (57 - 7 * i) * 128) * 128 ^ i := by
            rw [Nat.mul_assoc, Nat.mul_comm 128 (128 ^ i), Nat.mul_comm (2 ^ (57 - 7 * i)) 128, Nat.mul_comm (128 * 2 ^ (57 - 7 * i))]; exact this
          have := Nat.lt_of_mul_lt_mul_right h5
          omega
        rw [Nat.mul_comm]
        exact Nat.mul_lt_mul_of_pos_left (by omega) hpw
theorem pG_len {s : Bytes} {i v : Nat} {t : Bytes} (h : pG i s = some (v, t)) : t.length < s.length := by
  have := (pG_grp s i v t h).1
  have h2 := grp_len_pos v
  rw [this, List.length_append]; omega
end Go.Proofs.YtlboioplemlneaaGreat.K
/- Numbers and texts in groups: the document's bytes, and what the program reads. -/
set_option maxRecDepth 100000
set_option maxHeartbeats 2000000
set_option linter.unusedVariables false
set_option linter.unusedSimpArgs false
namespace Go.Proofs.YtlboioplemlneaaGreat.K
open Go Go.Proofs
theorem wu8' {x : Int} (h0 : 0 ≤ x) (h1 : x < 256) : IntKind.u8.wrap x = x := by
  simp [IntKind.wrap, IntKind.signed, IntKind.bits]; omega
theorem pow128_2 (i : Nat) : 128 ^ i = 2 ^ (7 * i) := by rw [show (128 : Nat) = 2 ^ 7 from by decide, ← Nat.pow_mul]
section
variable {H : Heap} {b : Nat} {l : Bytes} {bad : Bool}
structure RgI (H0 : Heap) (v0 : Nat) (d : Nat) (e : Fe) (H : Heap) (v : Nat) : Prop where
  h1 : d = v
  h2 : v < 18446744073709551616
  kp : Kp H0.next H0 H
  p : ∃ p, e 3 = .string (ofL p) ∧ p ++ grp v = grp v0
  e0 : e 0 = .int .u64 (v : Int)
theorem one_text {H : Heap} {K : Kv} {x : Nat} (hx : x < 256) : run S (.b2s 5 (.c (.slice (some ⟨H.next, 0, none⟩) 1 1))) [] (H.push (.cells [.int .u8 x] 5 true)) K = K (.string (ofL [UInt8.ofNat x])) (H.push (.cells [.int .u8 x] 5 true)) := by
  have hn : (UInt8.ofNat x).toNat = x := by simp; omega
  have : kRow (H.push (.cells [.int .u8 x] 5 true)) 5 1 [UInt8.ofNat x].length (some ⟨H.next, 0, none⟩) = some (bvs [UInt8.ofNat x]) := by
    simp [kRow, rd, bvs, bv, hn]
  exact s_b2s this
theorem rGroup_t (v : Nat) (hv : v < 18446744073709551616) : Wf S 27 [.int .u64 v] H fun r H' => Kp H.next H H' ∧ r = .string (ofL (grp v)) := by
  refine w27 rfl rfl _ ?_
  simp [s27]
  refine l27_0 S (fun d e H' => ∃ u, RgI H v d e H' u) v ⟨v, rfl, hv, Kp.refl _ _, ⟨[], by simp [bs_ofL], rfl⟩, by simp⟩ ?_
  rintro d e H' ⟨u, rfl, hu, hk, ⟨p, e3, hp⟩, e0⟩
  have hgl := grp_len10 (v := v) (by omega)
  have hll := congrArg List.length hp
  have hgp := grp_len_pos d
  rw [List.length_append] at hll
  by_cases h3 : 128 ≤ d
  · obtain ⟨q, hq⟩ : ∃ q, q = d % 128 := ⟨_, rfl⟩
    obtain ⟨x, hx⟩ : ∃ x, x = d % 128 + 128 := ⟨_, rfl⟩
    obtain ⟨y, hy⟩ : ∃ y, y = d / 128 := ⟨_, rfl⟩
    have t1 : (d : Int).tmod 128 = (q : Int) := by rw [Int.tmod_eq_emod_of_nonneg (by omega)]; omega
    have t2 : (d : Int).tdiv 128 = (y : Int) := by rw [Int.tdiv_eq_ediv_of_nonneg (by omega)]; omega
    have w1 : IntKind.u64.wrap ((q : Int) + 128) = (x : Int) := by rw [wu64 (by omega) (by omega)]; omega
    have w2 : IntKind.u8.wrap (x : Int) = (x : Int) := wu8' (by omega) (by omega)
    have w3 : IntKind.u64.wrap (y : Int) = (y : Int) := wu64 (by omega) (by omega)
    have ho := fun K => one_text (H := H') (K := K) (x := x) (by omega)
    have ha := s_add (l := p) (m := [UInt8.ofNat x]) (by simp; omega)
    have h3' : (128 : Int) ≤ d := by omega
    simp [s27_0, e0, e3, h3', t1, t2, w1, w2, w3, kFill, evPs, isTup, cellsL, wr, ho, ha]
    refine ⟨y, by omega, y, rfl, by omega, hk.trans (Kp.push hk.1), ⟨p ++ [UInt8.ofNat x], by simp, ?_⟩, by simp⟩
    rw [← hp, grp_high (v := d) (by omega), ← hx, ← hy]; simp
  · have h3' : ¬ (128 : Int) ≤ d := by omega
    have w2 : IntKind.u8.wrap (d : Int) = (d : Int) := wu8' (by omega) (by omega)
    have ho := fun K => one_text (H := H') (K := K) (x := d) (by omega)
    have ha := s_add (l := p) (m := [UInt8.ofNat d]) (by simp; omega)
    simp [s27_0, e0, e3, h3', w2, kFill, evPs, isTup, cellsL, wr, ho, ha]
    refine ⟨hk.trans (Kp.push hk.1), ?_⟩
    rw [← hp, grp_low (v := d) (by omega)]
/-- a text, with how many bytes it has ahead -/
def txt (s : Bytes) : Bytes := grp s.length ++ s
theorem rText_t (s : Bytes) (hs : (s.length : Int) ≤ 4611686018427387904) : Wf S 11 [.string (ofL s)] H fun r H' => Kp H.next H H' ∧ r = .string (ofL (txt s)) := by
  refine w11 rfl rfl _ ?_
  have w1 : IntKind.u64.wrap (s.length : Int) = (s.length : Int) := wu64 (by omega) (by omega)
  simp [s11, ofL_size, w1]
  refine (rGroup_t s.length (by omega)).mono ?_
  rintro v H1 ⟨hk, rfl⟩
  have hgl := grp_len10 (v := s.length) (by omega)
  have ha := s_add (l := grp s.length) (m := s) (by omega)
  simp [ha]
  exact ⟨hk, rfl⟩
/-- what a reader gives of a number in groups, and what it is then -/
def grpOut (l : Bytes) (bad : Bool) : Option (Nat × Bytes) := if bad = true then none else pG 0 l
def gvN (o : Option (Nat × Bytes)) : Nat := match o with | some p => p.1 | none => 0
def grL (o : Option (Nat × Bytes)) : Bytes := match o with | some p => p.2 | none => []
structure GrI (H0 : Heap) (b : Nat) (l : Bytes) (d : Nat) (e : Fe) (H : Heap) (i : Nat) : Prop where
  h1 : i ≤ 9
  h2 : d = 10 - i
  h3 : i ≤ l.length
  a : ∃ acc : Nat, e 3 = .int .u64 (acc : Int) ∧ acc < 128 ^ i ∧ pG 0 l = (pG i (l.drop i)).map fun p : Nat × Bytes => (acc + 128 ^ i * p.1, p.2)
  hH : H = H0.put b (RdB (l.drop i) false)
  e0 : e 0 = .pointer (some ⟨b, 0, none⟩)
  e7 : e 7 = .int .i64 i
theorem pG_ten : ∀ (s : Bytes), pG 10 s = none → True := fun _ _ => trivial
theorem Group_t (h : Rd H b l bad) : Wf S 41 [.pointer (some ⟨b, 0, none⟩)] H fun v H' => v = .int .u64 (gvN (grpOut l bad)) ∧ H' = H.put b (RdB (grL (grpOut l bad)) (grpOut l bad).isNone) := by
  have hlt := h.lt
  refine w41 rfl rfl _ ?_
  simp [s41]
  cases bad with
  | true =>
    refine u41_0 S ?_
    simp [s41_0]
    refine (Raw_t h 1).mono ?_
    rintro v H1 ⟨rfl, rfl⟩
    simp [rawOut, rawL, rawB, grpOut, gvN, grL, bs_ofL, s_eql]
  | false =>
    have hp : H = H.put b (RdB (l.drop 0) false) := (put_same h).symm
    refine l41_0 S (fun d e H' => ∃ i, GrI H b l d e H' i) 10 ⟨0, by omega, by omega, by omega, ⟨0, by simp, by simp, by rw [List.drop_zero]; cases pG 0 l with | none => rfl | some p => simp⟩, hp, by simp, by simp⟩ ?_
    rintro d e H' ⟨i, hi, rfl, hil, ⟨acc, e3, hacc, hpg⟩, rfl, e0, e7⟩
    have hrd : Rd (H.put b (RdB (l.drop i) false)) b (l.drop i) false := rd_put hlt
    have h3' : (i : Int) < 10 := by omega
    have w2 : IntKind.i64.wrap ((i : Int) + 1) = (i : Int) + 1 := wi (by omega) (by omega)
    simp [s41_0, e0, e3, e7, h3']
    refine (Raw_t hrd 1).mono ?_
    rintro v H1 ⟨rfl, rfl⟩
    rw [put_put]
    rcases Nat.lt_or_ge i l.length with hlen | hlen
    · obtain ⟨x, hx⟩ : ∃ x, l[i]? = some x := ⟨_, List.getElem?_eq_getElem hlen⟩
      have hd : l.drop i = x :: l.drop (i + 1) := by
        rw [List.drop_eq_getElem_cons hlen]
        have := List.getElem?_eq_getElem hlen
        rw [hx] at this; cases this; rfl
      have hxb := x.toNat_lt
      have r1 : rawOut (l.drop i) false 1 = [x] := by simp [rawOut, hd]
      have r2 : rawL (l.drop i) false 1 = l.drop (i + 1) := by simp [rawL, hd]
      have r3 : rawB (l.drop i) false 1 = false := by simp [rawB, hd]
      have e1 : (1 : Int).toNat = 1 := rfl
      rw [e1, r1, r2, r3]
      rw [hd] at hpg
      obtain ⟨c, hc⟩ : ∃ c, c = x.toNat := ⟨_, rfl⟩
      rw [← hc] at hxb
      have hat : ∀ (K : Kv) (H : Heap), run S (.idS (.c (.string (ofL [x]))) (.c (.int .i64 0))) [] H K = K (.int .u8 (c : Int)) H := fun K H => by
        have := s_at (S := S) (e := []) (H := H) (K := K) (l := [x]) (k := .i64) (i := 0) (b := x) rfl
        rw [hc]; exact this
      have wc : IntKind.u64.wrap (c : Int) = c := wu64 (by omega) (by omega)
      have hne : ((ofL [x]).toList == (ofL []).toList) = false := by rw [toList_ofL, toList_ofL]; rfl
      have hrd2 : Rd (H.put b (RdB (l.drop (i + 1)) false)) b (l.drop (i + 1)) false := rd_put hlt
      simp only [pG] at hpg
      rw [← hc] at hpg
      -- the byte's own part
      obtain ⟨m, hm⟩ : ∃ m, m = c % 128 := ⟨_, rfl⟩
      have oa : kBin .and (.int .u64 (c : Int)) (.int .u64 127) = some (.int .u64 (m : Int)) := by
        have h := kb_andN (k := .u64) (a := c) (b := 127) (by show c < 2 ^ 64; omega) (by decide)
        have e : c &&& 127 = m := by rw [hm]; exact and_low c 7
        rw [e, wu64 (by omega) (by omega)] at h
        exact h
      have wm : IntKind.i64.wrap (7 * (i : Int)) = ((7 * i : Nat) : Int) := by rw [wi (by omega) (by omega)]; omega
      have hib : min (7 * i) IntKind.u64.bits = 7 * i := by
        have : IntKind.u64.bits = 64 := rfl
        omega
      rw [pow128_2] at hacc
      have fit : (i = 9 → c ≤ 1) → m * 2 ^ (7 * i) + 2 ^ (7 * i) ≤ 18446744073709551616 := fun hh => by
        have e64 : (2 : Nat) ^ 64 = 18446744073709551616 := by decide
        by_cases e : i = 9
        · subst e
          have : m ≤ 1 := by have := hh rfl; omega
          have e63 : (2 : Nat) ^ (7 * 9) = 9223372036854775808 := by decide
          rw [e63]; omega
        · have h1 : (m + 1) * 2 ^ (7 * i) ≤ 128 * 2 ^ (7 * i) := Nat.mul_le_mul_right _ (by omega)
          have h2 : 128 * 2 ^ (7 * i) = 2 ^ (7 * i + 7) := by rw [Nat.pow_add]; omega
          have h3 : 2 ^ (7 * i + 7) ≤ 2 ^ 64 := Nat.pow_le_pow_right (by omega) (by omega)
          rw [Nat.succ_mul] at h1; omega
      have os : (i = 9 → c ≤ 1) → kBin .shl (.int .u64 (m : Int)) (.int .i64 ((7 * i : Nat) : Int)) = some (.int .u64 ((m * 2 ^ (7 * i) : Nat) : Int)) := fun hh => by
        have := fit hh
        have hp0 : 0 < 2 ^ (7 * i) := Nat.pow_pos (by omega)
        rw [kb_shl, if_neg (by omega), Int.toNat_natCast, hib]
        have e : (m : Int) * 2 ^ (7 * i) = ((m * 2 ^ (7 * i) : Nat) : Int) := by exact_mod_cast rfl
        rw [e, wu64 (by omega) (by omega)]
      have oo : (i = 9 → c ≤ 1) → kBin .or (.int .u64 (acc : Int)) (.int .u64 ((m * 2 ^ (7 * i) : Nat) : Int)) = some (.int .u64 ((acc + m * 2 ^ (7 * i) : Nat) : Int)) := fun hh => by
        have := fit hh
        have hp0 : 0 < 2 ^ (7 * i) := Nat.pow_pos (by omega)
        rw [kb_orN (by show _ < 2 ^ 64; omega) (by show _ < 2 ^ 64; omega), or_high hacc, wu64 (by omega) (by omega)]
      obtain ⟨q, hq⟩ : ∃ q, q = 7 * i := ⟨_, rfl⟩
      have hpw : 128 ^ i = 2 ^ q := by rw [pow128_2, hq]
      rw [← hq] at wm os oo hacc
      rw [hpw] at hpg
      obtain ⟨y, hy⟩ : ∃ y, y = m * 2 ^ q := ⟨_, rfl⟩
      rw [← hy] at os oo
      obtain ⟨z, hz⟩ : ∃ z, z = acc + y := ⟨_, rfl⟩
      rw [← hz] at oo
      by_cases i9 : (i : Int) = 9
      · have i9' : i = 9 := by omega
        subst i9'
        have w63 : IntKind.i64.wrap 63 = 63 := by decide
        by_cases c1 : (1 : Int) < c
        · rw [if_pos (by omega)] at hpg
          have hgo : grpOut l false = none := by simpa [grpOut] using hpg
          rw [hgo]
          have c1' : 1 < c := by omega
          simp [bs_ofL, hne, hat, wc, c1, c1', e0]
          refine (fail_t hrd2).mono ?_
          rintro v H2 rfl
          rw [put_put]
          simp [gvN, grL]
        · by_cases c0 : (c : Int) = 0
          · rw [if_pos (by omega)] at hpg
            have hgo : grpOut l false = none := by simpa [grpOut] using hpg
            rw [hgo]
            have c0' : c = 0 := by omega
            have wz : IntKind.u64.wrap 0 = 0 := by decide
            simp [bs_ofL, hne, hat, wc, wz, c1, c0', e0]
            refine (fail_t hrd2).mono ?_
            rintro v H2 rfl
            rw [put_put]
            simp [gvN, grL]
          · rw [if_neg (by omega), if_pos (by omega)] at hpg
            have c0' : ¬ c = 0 := by omega
            have c1' : ¬ 1 < c := by omega
            have c2 : c < 128 := by omega
            have c2' : (c : Int) < 128 := by omega
            have os := os (fun _ => by omega)
            have oo := oo (fun _ => by omega)
            have os63 : kBin .shl (.int .u64 (m : Int)) (.int .i64 63) = some (.int .u64 (y : Int)) := by
              have h := os
              rw [hq] at h
              exact h
            have hgo : grpOut l false = some (z, l.drop (9 + 1)) := by
              have : m = c := by omega
              simp only [grpOut, Bool.false_eq_true, if_false, hpg, Option.map_some, hz, hy, this, Nat.mul_comm (2 ^ q)]
            rw [hgo]
            simp [bs_ofL, hne, hat, wc, c1, c1', c0', c2, c2', oa, w63, os63, oo, e3]
            simp [gvN, grL]
      · by_cases c0 : 0 < i ∧ c = 0
        · rw [if_pos (by omega)] at hpg
          have hgo : grpOut l false = none := by simpa [grpOut] using hpg
          rw [hgo]
          obtain ⟨c0', c0⟩ := c0
          have wz : IntKind.u64.wrap 0 = 0 := by decide
          simp [bs_ofL, hne, hat, wc, wz, i9, c0, c0', e0]
          refine (fail_t hrd2).mono ?_
          rintro v H2 rfl
          rw [put_put]
          simp [gvN, grL]
        · rw [if_neg (by omega)] at hpg
          have hcc : (decide (0 < i) && decide (c = 0)) = false := by simp only [Bool.and_eq_false_iff, decide_eq_false_iff_not]; omega
          have os := os (fun e => by omega)
          have oo := oo (fun e => by omega)
          by_cases c2 : c < 128
          · rw [if_pos c2] at hpg
            have c2' : (c : Int) < 128 := by omega
            have hgo : grpOut l false = some (z, l.drop (i + 1)) := by
              have : m = c := by omega
              simp only [grpOut, Bool.false_eq_true, if_false, hpg, Option.map_some, hz, hy, this, Nat.mul_comm (2 ^ q)]
            rw [hgo]
            by_cases i0 : 0 < i
            · have c0' : ¬ c = 0 := by omega
              simp [bs_ofL, s_eql, hne, hat, wc, i9, i0, c0', c2, c2', oa, wm, os, oo, e3, e7]
              simp [gvN, grL]
            · simp [bs_ofL, s_eql, hne, hat, wc, i9, i0, c2, c2', oa, wm, os, oo, e3, e7]
              simp [gvN, grL]
          · rw [if_neg c2] at hpg
            have c2' : ¬ (c : Int) < 128 := by omega
            have c0' : ¬ c = 0 := by omega
            have fin : GrI H b l (10 - (i + 1)) e H (i + 1) → True := fun _ => trivial
            have hzb : z < 128 ^ (i + 1) := by
              have h1 : (m + 1) * 2 ^ q ≤ 128 * 2 ^ q := Nat.mul_le_mul_right _ (by omega)
              rw [Nat.pow_succ, hpw, Nat.mul_comm (2 ^ q)]
              rw [Nat.succ_mul] at h1; omega
            have hpz : pG 0 l = (pG (i + 1) (l.drop (i + 1))).map fun p : Nat × Bytes => (z + 128 ^ (i + 1) * p.1, p.2) := by
              rw [hpg, Option.map_map]
              congr 1
              funext p
              simp only [Function.comp, Prod.mk.injEq, and_true]
              rw [Nat.pow_succ, hpw, hz, hy, ← hm, Nat.mul_add, Nat.mul_comm (2 ^ q) m, Nat.mul_assoc]; omega
            have : ∀ i0 : Prop, True := fun _ => trivial
            by_cases i0 : 0 < i
            · simp [bs_ofL, s_eql, hne, hat, wc, i9, i0, c0', c2, c2', oa, wm, os, oo, e3, e7, w2]
              exact ⟨10 - (i + 1), by omega, i + 1, by omega, rfl, by omega, ⟨z, by simp, hzb, hpz⟩, rfl, by simp [e0], by simp⟩
            · simp [bs_ofL, s_eql, hne, hat, wc, i9, i0, c2, c2', oa, wm, os, oo, e3, e7, w2]
              exact ⟨10 - (i + 1), by omega, i + 1, by omega, rfl, by omega, ⟨z, by simp, hzb, hpz⟩, rfl, by simp [e0], by simp⟩
    · have hd : l.drop i = [] := List.drop_of_length_le hlen
      rw [hd] at hpg ⊢
      have hgo : grpOut l false = none := by simpa [grpOut, pG] using hpg
      rw [hgo]
      simp [rawOut, rawL, rawB, gvN, grL, bs_ofL, s_eql]
end
end Go.Proofs.YtlboioplemlneaaGreat.K
/- Numbers and texts: what the program's reader gives within a bound; what its writer writes. -/
set_option maxRecDepth 100000
set_option maxHeartbeats 2000000
set_option linter.unusedVariables false
set_option linter.unusedSimpArgs false
namespace Go.Proofs.YtlboioplemlneaaGreat.K
open Go Go.Proofs
/-- a number in groups that is not above another one -/
def intOut (l : Bytes) (bad : Bool) (most : Nat) : Option (Nat × Bytes) := (grpOut l bad).bind fun p => if p.1 ≤ most then some p else none
section
variable {H : Heap} {b : Nat} {l : Bytes} {bad : Bool}
theorem Int_t (h : Rd H b l bad) (most : Nat) (hm : most ≤ 4611686018427387904) : Wf S 22 [.pointer (some ⟨b, 0, none⟩), .int .i64 most] H fun v H' => v = .int .i64 (gvN (intOut l bad most)) ∧ H' = H.put b (RdB (grL (intOut l bad most)) (intOut l bad most).isNone) := by
  have hlt := h.lt
  refine w22 rfl rfl _ _ ?_
  simp [s22]
  refine (Group_t h).mono ?_
  rintro v H1 ⟨rfl, rfl⟩
  have hrd : Rd (H.put b (RdB (grL (grpOut l bad)) (grpOut l bad).isNone)) b (grL (grpOut l bad)) (grpOut l bad).isNone := rd_put hlt
  try simp
  refine (Bad_t hrd).mono ?_
  rintro v H2 ⟨rfl, rfl⟩
  cases ho : grpOut l bad with
  | none =>
    rw [ho] at hrd
    have hi : intOut l bad most = none := by simp [intOut, ho]
    simp
    refine (fail_t hrd).mono ?_
    rintro v H3 rfl
    rw [put_put, hi]
    simp [gvN, grL]
  | some p =>
    rw [ho] at hrd
    have hp64 : p.1 < 2 ^ 64 := by
      cases bad with
      | true => simp [grpOut] at ho
      | false =>
        have : pG 0 l = some (p.1, p.2) := by simpa [grpOut] using ho
        have := pG_lt this (by omega)
        simpa using this
    have hn0 : ¬ (most : Int) < 0 := by omega
    have w1 : IntKind.u64.wrap (most : Int) = most := wu64 (by omega) (by omega)
    by_cases hle : p.1 ≤ most
    · have hi : intOut l bad most = some p := by simp [intOut, ho, hle]
      have h1 : ¬ most < p.1 := by omega
      have h1' : ¬ (most : Int) < p.1 := by omega
      have w2 : IntKind.i64.wrap (p.1 : Int) = p.1 := wi (by omega) (by omega)
      simp [hn0, w1, gvN, h1, h1', w2]
      rw [hi]
      simp [gvN, grL]
    · have hi : intOut l bad most = none := by simp [intOut, ho, hle]
      have h1 : most < p.1 := by omega
      have h1' : (most : Int) < p.1 := by omega
      simp [hn0, w1, gvN, h1, h1']
      refine (fail_t hrd).mono ?_
      rintro v H3 rfl
      rw [put_put, hi]
      simp [gvN, grL]
def txtOut (l : Bytes) (bad : Bool) (most : Nat) : Option (Bytes × Bytes) := (intOut l bad most).bind fun p => if p.1 ≤ p.2.length then some (p.2.take p.1, p.2.drop p.1) else none
def txS (o : Option (Bytes × Bytes)) : Bytes := match o with | some p => p.1 | none => []
def txL (o : Option (Bytes × Bytes)) : Bytes := match o with | some p => p.2 | none => []
theorem Text_t (h : Rd H b l bad) (most : Nat) (hm : most ≤ 4611686018427387904) : Wf S 50 [.pointer (some ⟨b, 0, none⟩), .int .i64 most] H fun v H' => v = .string (ofL (txS (txtOut l bad most))) ∧ H' = H.put b (RdB (txL (txtOut l bad most)) (txtOut l bad most).isNone) := by
  have hlt := h.lt
  refine w50 rfl rfl _ _ ?_
  simp [s50]
  refine (Int_t h most hm).mono ?_
  rintro v H1 ⟨rfl, rfl⟩
  have hrd : Rd (H.put b (RdB (grL (intOut l bad most)) (intOut l bad most).isNone)) b (grL (intOut l bad most)) (intOut l bad most).isNone := rd_put hlt
  try simp
  refine (Raw_t hrd _).mono ?_
  rintro v H2 ⟨rfl, rfl⟩
  rw [put_put, Int.toNat_natCast]
  cases ho : intOut l bad most with
  | none =>
    have hi : txtOut l bad most = none := by simp [txtOut, ho]
    rw [hi]
    simp [rawOut, rawL, rawB, txS, txL, grL]
  | some p =>
    by_cases hle : p.1 ≤ p.2.length
    · have hi : txtOut l bad most = some (p.2.take p.1, p.2.drop p.1) := by simp [txtOut, ho, hle]
      rw [hi]
      have : ¬ p.2.length < p.1 := by omega
      simp [rawOut, rawL, rawB, txS, txL, grL, gvN, this]
    · have hi : txtOut l bad most = none := by simp [txtOut, ho, hle]
      rw [hi]
      have : p.2.length < p.1 := by omega
      simp [rawOut, rawL, rawB, txS, txL, grL, gvN, this]
/-- one part more, by append: all but the block that is ended stands as it stood -/
theorem Acc.app2 {t z N M n bytes : Nat} {H : Heap} {v : Value} {cs new : List Value} (h : Acc t z N M H v n cs) (hz : new.length = z) (hn : (n + 1) * bytes ≤ roomMax ∧ n + 1 ≤ roomMax) :
    ∃ v' H', kApp (H.push (.cells new t true)) t z bytes v 1 new = some (v', H') ∧ Acc t z H.next H'.next H' v' (n + 1) (cs ++ new) ∧ H.next < H'.next ∧ ∀ k, k < H.next → (∀ b m c, v = .slice (some b) m c → b.block ≠ k) → H'.get k = H.get k := by
  rcases h with ⟨rfl, rfl, rfl⟩ | ⟨b, c, h1, h2, rfl, hc, h3, h4⟩
  · have h5 : bytes ≤ roomMax ∧ 1 ≤ roomMax := by simpa using hn
    refine ⟨_, _, by simp [kApp, h5.1, h5.2]; exact ⟨rfl, rfl⟩, ?_, by simp; omega, fun k hk _ => ?_⟩
    · refine .inr ⟨H.next + 1, capx, by omega, by simp, rfl, .inl rfl, ?_, by simp [hz]⟩
      simp
    · rw [get_old (by simp; omega), get_old hk]
  · have hb := lt_cells h3
    have hrd : rd cs 0 (n * z) = some cs := by
      unfold rd; rw [if_pos (by omega), List.drop_zero, List.take_of_length_le (by omega)]
    have hg : (H.push (.cells new t true)).get b = .cells cs t true := by rw [get_old hb]; exact h3
    rcases hc with rfl | rfl
    · refine ⟨_, _, by simp only [kApp, hg, hn, and_self, if_true, Nat.succ_ne_zero, if_false, hrd, Option.map_some, Nat.one_ne_zero]; exact rfl, ?_, ?_, ?_⟩
      · refine .inr ⟨(H.push (.cells new t true)).next, capx, by simp, by simp [next_put], rfl, .inl rfl, ?_, by simp [h4, hz, Nat.succ_mul]⟩
        have := get_last (H := (H.push (.cells new t true)).put b .dead) (b := .cells (cs ++ new) t true)
        rw [next_put] at this; exact this
      · simp [next_put]; omega
      · intro k hk hkN
        have := hkN _ _ _ rfl
        simp only at this
        rw [get_old (by rw [next_put]; simp; omega), get_put_ne (by omega), get_old hk]
    · have hx : ¬ c = capx := by
        have : roomMax < capx := by decide
        omega
      have hx2 : ¬ c + 1 ≤ c := by omega
      refine ⟨_, _, by simp only [kApp, hg, hn, and_self, if_true, hx, hx2, if_false, hrd, Option.map_some]; exact rfl, ?_, ?_, ?_⟩
      · refine .inr ⟨(H.push (.cells new t true)).next, capx, by simp, by simp, rfl, .inl rfl, get_last, by simp [h4, hz, Nat.succ_mul]⟩
      · simp; omega
      · intro k hk hkN
        rw [get_old (by simp; omega), get_old hk]
theorem Acc.appN2 {t z N M n m bytes : Nat} {H : Heap} {v : Value} {cs new : List Value} (h : Acc t z N M H v n cs) (hm : 0 < m) (hz : new.length = m * z) (hn : (n + m) * bytes ≤ roomMax ∧ n + m ≤ roomMax) :
    ∃ v' H', kApp H t z bytes v m new = some (v', H') ∧ Acc t z H.next H'.next H' v' (n + m) (cs ++ new) ∧ H.next < H'.next ∧ ∀ k, k < H.next → (∀ b m c, v = .slice (some b) m c → b.block ≠ k) → H'.get k = H.get k := by
  have hm0 : ¬ m = 0 := by omega
  rcases h with ⟨rfl, rfl, rfl⟩ | ⟨b, c, h1, h2, rfl, hc, h3, h4⟩
  · have h5 : m * bytes ≤ roomMax ∧ m ≤ roomMax := by simpa using hn
    refine ⟨_, _, by simp [kApp, h5.1, h5.2, hm0]; exact ⟨rfl, rfl⟩, ?_, by simp, fun k hk _ => get_old hk⟩
    refine .inr ⟨H.next, capx, by omega, by simp, by simp, .inl rfl, ?_, by simp [hz]⟩
    simp
  · have hb := lt_cells h3
    have hrd : rd cs 0 (n * z) = some cs := by
      unfold rd; rw [if_pos (by omega), List.drop_zero, List.take_of_length_le (by omega)]
    rcases hc with rfl | rfl
    · refine ⟨_, _, by simp only [kApp, h3, hn, and_self, if_true, hm0, if_false, hrd, Option.map_some]; exact rfl, ?_, ?_, ?_⟩
      · refine .inr ⟨H.next, capx, by omega, by simp [next_put], rfl, .inl rfl, ?_, by simp [h4, hz, Nat.add_mul]⟩
        have := get_last (H := H.put b .dead) (b := .cells (cs ++ new) t true)
        rw [next_put] at this; exact this
      · simp [next_put]
      · intro k hk hkN
        have := hkN _ _ _ rfl
        simp only at this
        rw [get_old (by rw [next_put]; omega), get_put_ne (by omega)]
    · have hx : ¬ c = capx := by
        have : roomMax < capx := by decide
        omega
      have hx2 : ¬ c + m ≤ c := by omega
      refine ⟨_, _, by simp only [kApp, h3, hn, and_self, if_true, hx, hx2, if_false, hrd, Option.map_some]; exact rfl, ?_, ?_, ?_⟩
      · refine .inr ⟨H.next, capx, by omega, by simp, rfl, .inl rfl, get_last, by simp [h4, hz, Nat.add_mul]⟩
      · simp
      · intro k hk hkN
        rw [get_old hk]
/-- a writer at w that holds these bytes, apart from the blocks Q -/
def WrC (H : Heap) (w : Nat) (l : Bytes) (Q : Nat → Prop) : Prop := ∃ sv, H.get w = .cells [sv] 55 true ∧ Acc 5 1 (w + 1) H.next H sv l.length (bvs l) ∧ ∀ k, Q k → k < H.next ∧ k ≠ w ∧ ∀ b m c, sv = .slice (some b) m c → b.block ≠ k
/-- blocks of these stand as they stood -/
def KQ (Q : Nat → Prop) (H H' : Heap) : Prop := H.next ≤ H'.next ∧ ∀ k, Q k → H'.get k = H.get k
theorem KQ.refl (Q : Nat → Prop) (H : Heap) : KQ Q H H := ⟨Nat.le_refl _, fun _ _ => rfl⟩
theorem KQ.trans {Q : Nat → Prop} {A B C : Heap} (h : KQ Q A B) (h' : KQ Q B C) : KQ Q A C := ⟨Nat.le_trans h.1 h'.1, fun k hk => (h'.2 k hk).trans (h.2 k hk)⟩
theorem WrC.new {H : Heap} : WrC (H.push (.cells [.slice none 0 0] 55 true)) H.next [] (fun k => k < H.next) := ⟨_, get_last, by simpa [bvs] using Acc.nil, fun k hk => ⟨by simp; omega, by omega, fun b m c h => by simp at h⟩⟩
theorem WrC.lt {H : Heap} {w : Nat} {l : Bytes} {Q : Nat → Prop} (h : WrC H w l Q) : w < H.next := by obtain ⟨sv, hg, _⟩ := h; exact lt_cells hg
/-- a heap that goes on -/
theorem WrC.kp {H H' : Heap} {w : Nat} {l : Bytes} {Q : Nat → Prop} (h : WrC H w l Q) (hk : Kp H.next H H') : WrC H' w l Q := by
  obtain ⟨sv, hg, hA, hQ⟩ := h
  exact ⟨sv, (hk.2 w (lt_cells hg)).trans hg, (hA.kp fun b _ hb => hk.2 b hb).mono hk.1, fun k h => ⟨by have := (hQ k h).1; have := hk.1; omega, (hQ k h).2⟩⟩
/-- other blocks kept apart: fewer, or such as came later -/
theorem WrC.more {H : Heap} {w : Nat} {l : Bytes} {Q Q' : Nat → Prop} (h : WrC H w l Q) (hq : ∀ k, Q' k → Q k) : WrC H w l Q' := by
  obtain ⟨sv, hg, hA, hQ⟩ := h
  exact ⟨sv, hg, hA, fun k h => hQ k (hq k h)⟩
theorem WrC.with {H H' : Heap} {w q : Nat} {l : Bytes} {Q : Nat → Prop} (h : WrC H w l Q) (hk : Kp H.next H H') (h1 : H.next ≤ q) (h2 : q < H'.next) : WrC H' w l (fun k => Q k ∨ k = q) := by
  obtain ⟨sv, hg, hA, hQ⟩ := h
  have hlt := lt_cells hg
  refine ⟨sv, (hk.2 w hlt).trans hg, (hA.kp fun b _ hb => hk.2 b hb).mono hk.1, fun k h => ?_⟩
  rcases h with h | rfl
  · exact ⟨by have := (hQ k h).1; have := hk.1; omega, (hQ k h).2⟩
  · refine ⟨h2, by omega, fun b m c e => ?_⟩
    rcases hA with ⟨_, _, rfl⟩ | ⟨b', c', r1, r2, rfl, _⟩
    · cases e
    · simp only [Value.slice.injEq, Option.some.injEq] at e
      obtain ⟨rfl, _, _⟩ := e
      simp only; omega
theorem oneC_acc {t z N M n : Nat} {H : Heap} {v : Value} {cs : List Value} (h : Acc t z N M H v n cs) : oneC v = true := by
  obtain ⟨a, c, rfl, _⟩ := h.len
  rfl
/-- what was gathered, stored -/
theorem WrC.store {H H1 : Heap} {w : Nat} {l l' : Bytes} {Q : Nat → Prop} {sv v' : Value} (hg : H.get w = .cells [sv] 55 true) (hQ : ∀ k, Q k → k < H.next ∧ k ≠ w ∧ ∀ b m c, sv = .slice (some b) m c → b.block ≠ k) (hA0 : Acc 5 1 (w + 1) H.next H sv l.length (bvs l))
    (hA : Acc 5 1 H.next H1.next H1 v' l'.length (bvs l')) (hn : H.next < H1.next) (hk : ∀ k, k < H.next → (∀ b m c, sv = .slice (some b) m c → b.block ≠ k) → H1.get k = H.get k) :
    ∃ H2, kSt H1 (.pointer (some ⟨w, 0, none⟩)) v' = some H2 ∧ KQ Q H H2 ∧ WrC H2 w l' Q := by
  have hlt := lt_cells hg
  have hg1 : H1.get w = .cells [sv] 55 true := (hk w hlt (fun b m c e => by
    rcases hA0 with ⟨_, _, rfl⟩ | ⟨b', c', r1, r2, rfl, _⟩
    · cases e
    · simp only [Value.slice.injEq, Option.some.injEq] at e
      obtain ⟨rfl, _, _⟩ := e
      simp only; omega)).trans hg
  have ho := oneC_acc hA
  refine ⟨H1.put w (.cells [v'] 55 true), by simp [kSt, hg1, ho], ⟨by rw [next_put]; omega, fun k hk' => ?_⟩, v', get_put_eq (by omega), ?_, fun k hk' => ?_⟩
  · obtain ⟨q1, q2, q3⟩ := hQ k hk'
    rw [get_put_ne q2]; exact hk k q1 q3
  · rw [next_put]
    have := hA.kp (H' := H1.put w (.cells [v'] 55 true)) fun k hk _ => get_put_ne (by omega)
    rcases this with h | ⟨b', c', r1, r2, r3⟩
    · exact .inl h
    · exact .inr ⟨b', c', by omega, r2, r3⟩
  · obtain ⟨q1, q2, q3⟩ := hQ k hk'
    rw [next_put]
    refine ⟨by omega, q2, fun b m c e => ?_⟩
    rcases hA with ⟨_, _, rfl⟩ | ⟨b', c', r1, r2, rfl, _⟩
    · cases e
    · simp only [Value.slice.injEq, Option.some.injEq] at e
      obtain ⟨rfl, _, _⟩ := e
      simp only; omega
/-- one byte more, by append, stored -/
theorem WrC.one {w : Nat} {Q : Nat → Prop} (h : WrC H w l Q) (hl : l.length ≤ 10000000) {x : Nat} (hx : x < 256) : ∃ sv v' H1 H2, H.get w = .cells [sv] 55 true ∧ kApp (H.push (.cells [.int .u8 x] 5 true)) 5 1 1 sv 1 [.int .u8 x] = some (v', H1) ∧
    kSt H1 (.pointer (some ⟨w, 0, none⟩)) v' = some H2 ∧ KQ Q H H2 ∧ WrC H2 w (l ++ [UInt8.ofNat x]) Q := by
  obtain ⟨sv, hg, hA, hQ⟩ := h
  have hn : (UInt8.ofNat x).toNat = x := by simp; omega
  obtain ⟨v', H1, e1, hA1, hn1, hk⟩ := hA.app2 (bytes := 1) (new := [.int .u8 x]) rfl (by unfold roomMax; omega)
  obtain ⟨H2, q1, q2, q3⟩ := WrC.store (l' := l ++ [UInt8.ofNat x]) hg hQ hA (by simpa [bvs, bv, hn] using hA1) hn1 hk
  exact ⟨sv, v', H1, H2, hg, e1, q1, q2, q3⟩
theorem Fixed1w_t {w : Nat} {Q : Nat → Prop} (h : WrC H w l Q) (hl : l.length ≤ 1000000) (v : Nat) (hv : v < 256) : Wf S 28 [.pointer (some ⟨w, 0, none⟩), .int .u64 v, .int .i64 1] H fun r H' => r = .pointer (some ⟨w, 0, none⟩) ∧ KQ Q H H' ∧ WrC H' w (l ++ [UInt8.ofNat v]) Q := by
  refine w28 rfl rfl _ _ _ ?_
  simp [s28, kEq]
  refine (size_t H 1).mono ?_
  rintro r H1 ⟨rfl, rfl⟩
  obtain ⟨sv, v', H2, H3, e1, e2, e3, e4, e5⟩ := h.one (by omega) hv
  have w1 : IntKind.u8.wrap (v : Int) = v := wu8' (by omega) (by omega)
  have w3 : IntKind.i64.wrap 1 = 1 := by decide
  have hmm : (min (max 1 0) 8 : Int) = 1 := by decide
  try simp
  rw [hmm]
  refine u28_0 S ?_
  simp [s28_0, addOff, e1, w1, kFill, evPs, isTup, cellsL, wr, kRow, rd, e2, e3, kb_shr, w3]
  refine u28_0 S ?_
  simp [s28_0]
  exact ⟨e4, e5⟩
theorem or128 : ∀ y : Fin 256, (y.val ||| 128) = y.val % 128 + 128 := by decide
structure GwI (H0 : Heap) (w : Nat) (l : Bytes) (Q : Nat → Prop) (v0 : Nat) (d : Nat) (e : Fe) (H : Heap) (v : Nat) : Prop where
  h1 : d = v
  h2 : v < 18446744073709551616
  kp : KQ Q H0 H
  p : ∃ p, WrC H w (l ++ p) Q ∧ p ++ grp v = grp v0
  e0 : e 0 = .pointer (some ⟨w, 0, none⟩)
  e1 : e 1 = .int .u64 (v : Int)
theorem Groupw_t {w : Nat} {Q : Nat → Prop} (h : WrC H w l Q) (hl : l.length ≤ 1000000) (v : Nat) (hv : v < 18446744073709551616) : Wf S 29 [.pointer (some ⟨w, 0, none⟩), .int .u64 v] H fun r H' => r = .pointer (some ⟨w, 0, none⟩) ∧ KQ Q H H' ∧ WrC H' w (l ++ grp v) Q := by
  refine w29 rfl rfl _ _ ?_
  simp [s29, kEq]
  refine l29_0 S (fun d e H' => ∃ u, GwI H w l Q v d e H' u) v ⟨v, rfl, hv, KQ.refl _ _, ⟨[], by simpa using h, rfl⟩, by simp, by simp⟩ ?_
  rintro d e H' ⟨u, rfl, hu, hk, ⟨p, hw, hp⟩, e0, e1⟩
  have hgl := grp_len10 (v := v) (by omega)
  have hll := congrArg List.length hp
  have hgp := grp_len_pos d
  rw [List.length_append] at hll
  by_cases h3 : 127 < d
  · have h3' : (127 : Int) < d := by omega
    obtain ⟨q, hq⟩ : ∃ q, q = d % 256 := ⟨_, rfl⟩
    obtain ⟨x, hx⟩ : ∃ x, x = d % 128 + 128 := ⟨_, rfl⟩
    obtain ⟨y, hy⟩ : ∃ y, y = d / 128 := ⟨_, rfl⟩
    have w1 : IntKind.u8.wrap (d : Int) = (q : Int) := by simp [IntKind.wrap, IntKind.signed, IntKind.bits]; omega
    have o1 : kBin .or (.int .u8 (q : Int)) (.int .u8 128) = some (.int .u8 (x : Int)) := by
      have h := kb_orN (k := .u8) (a := q) (b := 128) (by show q < 2 ^ 8; omega) (by decide)
      have h2 := or128 ⟨q, by omega⟩
      simp only at h2
      rw [h2, wu8' (by omega) (by omega)] at h
      have : q % 128 + 128 = x := by omega
      rw [this] at h
      exact h
    have o2 : kBin .shr (.int .u64 (d : Int)) (.int .u64 7) = some (.int .u64 (y : Int)) := by
      rw [kb_shr, if_neg (by omega)]
      have hm : min (7 : Int).toNat IntKind.u64.bits = 7 := by decide
      rw [hm, Int.fdiv_eq_ediv_of_nonneg _ (by decide)]
      congr 2; omega
    obtain ⟨sv, v', H2, H3, a1, a2, a3, a4, a5⟩ := hw.one (by simp; omega) (x := x) (by omega)
    simp [s29_0, e0, e1, h3', addOff, a1, w1, o1, kFill, evPs, isTup, cellsL, wr, kRow, rd, a2, a3, o2]
    refine ⟨y, by omega, y, rfl, by omega, hk.trans a4, ⟨p ++ [UInt8.ofNat x], by simpa using a5, ?_⟩, by simp [e0], by simp⟩
    rw [← hp, grp_high (v := d) (by omega), ← hx, ← hy]; simp
  · have h3' : ¬ (127 : Int) < d := by omega
    have w1 : IntKind.u8.wrap (d : Int) = (d : Int) := wu8' (by omega) (by omega)
    obtain ⟨sv, v', H2, H3, a1, a2, a3, a4, a5⟩ := hw.one (by simp; omega) (x := d) (by omega)
    simp [s29_0, e0, e1, h3', addOff, a1, w1, kFill, evPs, isTup, cellsL, wr, kRow, rd, a2, a3]
    refine ⟨hk.trans a4, ?_⟩
    rw [← hp, grp_low (v := d) (by omega)]
    simpa using a5
theorem Raww_t {w : Nat} {Q : Nat → Prop} (h : WrC H w l Q) (hl : l.length ≤ 1000000) (s : Bytes) (hs : s.length ≤ 1000000) : Wf S 15 [.pointer (some ⟨w, 0, none⟩), .string (ofL s)] H fun r H' => r = .pointer (some ⟨w, 0, none⟩) ∧ KQ Q H H' ∧ WrC H' w (l ++ s) Q := by
  refine w15 rfl rfl _ _ ?_
  obtain ⟨sv, hg, hA, hQ⟩ := h
  by_cases h0 : s.length = 0
  · have : s = [] := List.eq_nil_of_length_eq_zero h0
    subst this
    have hap : kApp H 5 1 1 sv (ofL []).size (byteVals (ofL [])) = some (sv, H) := by
      rcases hA with ⟨h1, h2, rfl⟩ | ⟨b, c, h1, h2, rfl, hc, h3, h4⟩
      · simp [kApp, ofL_size]
      · have : l.length ≤ roomMax := by unfold roomMax; omega
        rcases hc with rfl | rfl
        · simp [kApp, ofL_size, h3, this]
        · have hx : ¬ l.length = capx := by
            have : roomMax < capx := by decide
            omega
          simp [kApp, ofL_size, h3, this, hx]
    have ho := oneC_acc hA
    have hst : kSt H (.pointer (some ⟨w, 0, none⟩)) sv = some (H.put w (.cells [sv] 55 true)) := by simp [kSt, hg, ho]
    have hps := put_same hg
    rw [hps] at hst
    simp [s15, kEq, addOff, hg, hap, hst]
    exact ⟨KQ.refl _ _, sv, hg, hA, hQ⟩
  · obtain ⟨v', H1, e1, hA1, hn1, hk⟩ := hA.appN2 (m := s.length) (bytes := 1) (new := bvs s) (by omega) (by rw [bvs_len]; omega) (by unfold roomMax; omega)
    obtain ⟨H2, q1, q2, q3⟩ := WrC.store (l' := l ++ s) hg hQ hA (by simpa [bvs] using hA1) hn1 hk
    have hap : kApp H 5 1 1 sv (ofL s).size (byteVals (ofL s)) = some (v', H1) := by rw [ofL_size, byteVals_ofL]; exact e1
    simp [s15, kEq, addOff, hg, hap, q1]
    exact ⟨q2, q3⟩
theorem Textw_t {w : Nat} {Q : Nat → Prop} (h : WrC H w l Q) (hl : l.length ≤ 900000) (s : Bytes) (hs : s.length ≤ 1000000) : Wf S 34 [.pointer (some ⟨w, 0, none⟩), .string (ofL s)] H fun r H' => r = .pointer (some ⟨w, 0, none⟩) ∧ KQ Q H H' ∧ WrC H' w (l ++ txt s) Q := by
  refine w34 rfl rfl _ _ ?_
  have w1 : IntKind.u64.wrap (s.length : Int) = (s.length : Int) := wu64 (by omega) (by omega)
  simp [s34, ofL_size, w1]
  refine (Groupw_t h (by omega) s.length (by omega)).mono ?_
  rintro r H1 ⟨rfl, hk1, h1⟩
  have hgl := grp_len10 (v := s.length) (by omega)
  try simp
  refine (Raww_t h1 (by simp; omega) s hs).mono ?_
  rintro r H2 ⟨rfl, hk2, h2⟩
  exact ⟨rfl, hk1.trans hk2, by simpa [txt] using h2⟩
theorem Stringw_t {w : Nat} {Q : Nat → Prop} (h : WrC H w l Q) : Wf S 16 [.pointer (some ⟨w, 0, none⟩)] H fun r H' => H' = H ∧ r = .string (ofL l) := by
  refine w16 rfl rfl _ ?_
  obtain ⟨sv, hg, hA, hQ⟩ := h
  obtain ⟨a, c, rfl, hrow⟩ := hA.row
  have hb := fun K => s_b2s (S := S) (e := []) (K := K) (c := c) hrow
  simp [s16, kEq, addOff, hg, hb]
end
end Go.Proofs.YtlboioplemlneaaGreat.K
/- A number in groups at the beginning of a text, as the document reads it. -/
set_option maxRecDepth 100000
set_option maxHeartbeats 2000000
set_option linter.unusedVariables false
set_option linter.unusedSimpArgs false
namespace Go.Proofs.YtlboioplemlneaaGreat.K
open Go Go.Proofs
def by0 (s : Bytes) (i : Nat) : Nat := (s.getD i 0).toNat
theorem by0_lt (s : Bytes) (i : Nat) : by0 s i < 256 := (s.getD i 0).toNat_lt
theorem drop_by {s : Bytes} {i : Nat} (h : i < s.length) : ∃ b, s.drop i = b :: s.drop (i + 1) ∧ b.toNat = by0 s i ∧ s[i]? = some b := by
  refine ⟨s[i], List.drop_eq_getElem_cons h, ?_, List.getElem?_eq_getElem h⟩
  unfold by0; rw [List.getD_eq_getElem?_getD, List.getElem?_eq_getElem h]; rfl
/-- the number that bytes i to n hold -/
def bvN (s : Bytes) (n : Nat) : Nat → Nat → Nat
  | 0, _ => 0
  | k + 1, i => by0 s i % 128 + 128 * bvN s n k (i + 1)
theorem bvN_lt (s : Bytes) (n : Nat) : ∀ k i, bvN s n k i < 128 ^ k
  | 0, i => by simp [bvN]
  | k + 1, i => by have := bvN_lt s n k (i + 1); simp only [bvN, Nat.pow_succ]; omega
theorem bvN_last (s : Bytes) (n : Nat) : ∀ k i, by0 s (i + k) % 128 * 128 ^ k ≤ bvN s n (k + 1) i
  | 0, i => by simp [bvN]
  | k + 1, i => by
    have := bvN_last s n k (i + 1)
    have e : i + 1 + k = i + (k + 1) := by omega
    rw [e] at this
    have e2 : by0 s (i + (k + 1)) % 128 * 128 ^ (k + 1) = 128 * (by0 s (i + (k + 1)) % 128 * 128 ^ k) := by
      rw [Nat.pow_succ, ← Nat.mul_assoc, Nat.mul_comm]
    rw [e2]
    show 128 * _ ≤ by0 s i % 128 + 128 * bvN s n (k + 1) (i + 1)
    have := Nat.mul_le_mul_left 128 this
    omega
theorem bvN_one (s : Bytes) (n : Nat) : ∀ k i, by0 s (i + k) ≤ 1 → bvN s n (k + 1) i < 2 * 128 ^ k
  | 0, i, h => by simp only [Nat.add_zero] at h; simp only [bvN, Nat.pow_zero]; omega
  | k + 1, i, h => by
    have e : i + 1 + k = i + (k + 1) := by omega
    have := bvN_one s n k (i + 1) (by rw [e]; exact h)
    show by0 s i % 128 + 128 * bvN s n (k + 1) (i + 1) < _
    rw [Nat.pow_succ]; omega
theorem pG_none {s : Bytes} {n : Nat} (hb : ∀ j, j < n → 128 ≤ by0 s j) (h : n = s.length ∨ 9 < n) (hn : n ≤ s.length) : ∀ k i, i + k = min n 9 → pG i (s.drop i) = none
  | 0, i, h0 => by
    rcases Nat.lt_or_ge 9 n with h9 | h9
    · have hi : i = 9 := by omega
      subst hi
      obtain ⟨b, h1, h2, _⟩ := drop_by (s := s) (i := 9) (by omega)
      have := hb 9 h9
      rw [h1]
      have h3 : 1 < b.toNat := by omega
      simp only [pG]
      rw [if_pos (.inl ⟨trivial, h3⟩)]
    · have hi : i = s.length := by omega
      rw [hi, List.drop_length]; rfl
  | k + 1, i, h0 => by
    obtain ⟨b, h1, h2, _⟩ := drop_by (s := s) (i := i) (by omega)
    have := hb i (by omega)
    have ih := pG_none hb h hn k (i + 1) (by omega)
    rw [h1]
    simp only [pG, ih, Option.map_none]
    split
    · rfl
    · split
      · omega
      · rfl
theorem pG_some {s : Bytes} {n : Nat} (hb : ∀ j, j < n → 128 ≤ by0 s j) (hn : n < s.length) (hl : by0 s n < 128) (h9 : n ≤ 9) : ∀ k i, i + k = n →
    pG i (s.drop i) = if (n = 9 ∧ 1 < by0 s n) ∨ (0 < n ∧ by0 s n = 0) then none else some (bvN s n (k + 1) i, s.drop (n + 1))
  | 0, i, h0 => by
    have hi : i = n := by omega
    subst hi
    obtain ⟨b, h1, h2, _⟩ := drop_by hn
    rw [h1]
    simp only [pG, h2, bvN]
    split
    · rfl
    · have : by0 s i % 128 = by0 s i := Nat.mod_eq_of_lt hl
      simp [hl, this]
  | k + 1, i, h0 => by
    obtain ⟨b, h1, h2, _⟩ := drop_by (s := s) (i := i) (by omega)
    have h3 := hb i (by omega)
    have ih := pG_some hb hn hl h9 k (i + 1) (by omega)
    rw [h1]
    simp only [pG, h2, ih]
    rw [if_neg (by omega), if_neg (by omega)]
    split
    · rfl
    · simp only [Option.map_some, bvN]
structure F1 (s : Bytes) (d : Nat) (e : Fe) (H0 H : Heap) (i : Nat) : Prop where
  h1 : i ≤ s.length
  h2 : d = s.length - i
  hH : H = H0
  b : ∀ j, j < i → 128 ≤ by0 s j
  e0 : e 0 = .string (ofL s)
  e4 : e 4 = .int .i64 i
structure F2 (s : Bytes) (n : Nat) (d : Nat) (e : Fe) (H0 H : Heap) (k : Nat) : Prop where
  h1 : k ≤ n + 1
  h2 : d = n + 1 - k
  hH : H = H0
  v : n = 9 → k = 10 → by0 s 9 ≤ 1
  e0 : e 0 = .string (ofL s)
  e4 : e 4 = .int .i64 n
  e5 : e 5 = .int .u64 ((bvN s n k (n + 1 - k) : Nat) : Int)
  e6 : e 6 = .int .i64 ((n : Int) - k)
def gFirst (s : Bytes) : Value := match pG 0 s with
  | some (v, t) => .tuple #[.int .u64 (v : Int), .int .i64 ((s.length - t.length : Nat) : Int)]
  | none => .tuple #[.int .u64 0, .int .i64 0]
theorem rFirst_t {H : Heap} (s : Bytes) (hs : s.length ≤ 1000000) : Wf S 18 [.string (ofL s)] H fun r H' => Kp H.next H H' ∧ r = gFirst s := by
  refine w18 rfl rfl _ ?_
  simp [s18]
  refine l18_1 S (fun d e H' => ∃ i, F1 s d e H H' i) s.length ⟨0, by omega, by omega, rfl, by omega, by simp, by simp⟩ ?_
  rintro d e H' ⟨i, hi, rfl, rfl, hb, e0, e4⟩
  have w2 : IntKind.i64.wrap ((i : Int) + 1) = (i : Int) + 1 := wi (by omega) (by omega)
  by_cases h3 : i < s.length ∧ 128 ≤ by0 s i
  · obtain ⟨h3, h4⟩ := h3
    obtain ⟨b, q1, q2, q3⟩ := drop_by h3
    have hat := fun K => s_at (S := S) (e := []) (H := H') (K := K) (l := s) (k := .i64) q3
    have h4' : (128 : Int) ≤ b.toNat := by omega
    simp [s18_1, e0, e4, ofL_size, h3, hat, bv, h4', w2]
    exact ⟨s.length - (i + 1), by omega, i + 1, by omega, rfl, rfl, fun j hj => by
      by_cases e : j = i
      · rw [e]; exact h4
      · exact hb j (by omega), by simp [e0], by simp⟩
  · -- the first loop ends here
    have fin : (i = s.length ∨ 9 < i) → pG 0 s = none := fun h => by
      have := pG_none hb h hi (min i 9) 0 (by omega)
      simpa using this
    by_cases h5 : i = s.length
    · have hg : gFirst s = .tuple #[.int .u64 0, .int .i64 0] := by unfold gFirst; rw [fin (.inl h5)]
      subst h5
      simp [s18_1, e0, e4, ofL_size, hg, tup]
      exact Kp.refl _ _
    · have h6 : i < s.length := by omega
      have h7 : by0 s i < 128 := by omega
      obtain ⟨b, q1, q2, q3⟩ := drop_by h6
      have hat := fun K => s_at (S := S) (e := []) (H := H') (K := K) (l := s) (k := .i64) q3
      have h4' : ¬ (128 : Int) ≤ b.toNat := by omega
      have h5' : ¬ (i : Int) = s.length := by omega
      by_cases h8 : 9 < i
      · have hg : gFirst s = .tuple #[.int .u64 0, .int .i64 0] := by unfold gFirst; rw [fin (.inr h8)]
        have h8' : (9 : Int) < i := by omega
        simp [s18_1, e0, e4, ofL_size, h6, hat, bv, h4', h5, h5', h8', hg, tup]
        exact Kp.refl _ _
      · have h8' : ¬ (9 : Int) < i := by omega
        have hps := pG_some hb h6 h7 (by omega) i 0 (by omega)
        rw [List.drop_zero] at hps
        simp [s18_1, e0, e4, ofL_size, h6, hat, bv, h4', h5, h5', h8']
        refine l18_0 S (fun d e' H2 => ∃ k, F2 s i d e' H' H2 k) (i + 1) ⟨0, by omega, by omega, rfl, by omega, by simp [e0], by simp [e4], by simp [bvN], by simp [e4]⟩ ?_
        rintro d e' H2 ⟨k, hk, rfl, rfl, hv, q0, q4, q5, q6⟩
        have hlt := bvN_lt s i k (i + 1 - k)
        by_cases h9 : k < i + 1
        · obtain ⟨j, hj⟩ : ∃ j, j = i - k := ⟨_, rfl⟩
          have hjj : (i : Int) - k = (j : Int) := by omega
          have hij : i + 1 - k = j + 1 := by omega
          rw [hjj] at q6
          rw [hij] at q5 hlt
          obtain ⟨V, hV⟩ : ∃ V, V = bvN s i k (j + 1) := ⟨_, rfl⟩
          rw [← hV] at q5 hlt
          by_cases h10 : 144115188075855871 < V
          · have h10' : (144115188075855871 : Int) < V := by omega
            have hk9 : k = 9 ∧ i = 9 := by
              rcases Nat.lt_or_ge k 9 with h | h
              · have : 128 ^ k ≤ 128 ^ 8 := Nat.pow_le_pow_right (by omega) (by omega)
                have e8 : (128 : Nat) ^ 8 = 72057594037927936 := by decide
                omega
              · omega
            obtain ⟨rfl, rfl⟩ := hk9
            have hj0 : j = 0 := by omega
            subst hj0
            have h2 : 1 < by0 s 9 := by
              rcases Nat.lt_or_ge 1 (by0 s 9) with h | h
              · exact h
              · have := bvN_one s 9 8 1 h
                have e8 : (128 : Nat) ^ 8 = 72057594037927936 := by decide
                rw [e8] at this
                have hV' : V = bvN s 9 (8 + 1) 1 := hV
                omega
            have hg : gFirst s = .tuple #[.int .u64 0, .int .i64 0] := by
              unfold gFirst; rw [hps, if_pos (.inl ⟨rfl, h2⟩)]
            simp [s18_0, q0, q5, q6, h10, h10', hg, tup]
            exact Kp.refl _ _
          · have h10' : ¬ (144115188075855871 : Int) < V := by omega
            obtain ⟨b2, r1, r2, r3⟩ := drop_by (s := s) (i := j) (by omega)
            have hat2 := fun K => s_at (S := S) (e := []) (H := H2) (K := K) (l := s) (k := .i64) r3
            have hb2 := b2.toNat_lt
            obtain ⟨m, hm⟩ : ∃ m, m = b2.toNat % 128 := ⟨_, rfl⟩
            have t1 : (b2.toNat : Int).tmod 128 = (m : Int) := by rw [Int.tmod_eq_emod_of_nonneg (by omega)]; omega
            have w3 : IntKind.u64.wrap (m : Int) = m := wu64 (by omega) (by omega)
            have w4 : IntKind.u64.wrap ((V : Int) * 128) = ((V * 128 : Nat) : Int) := by rw [wu64 (by omega) (by omega)]; omega
            have hbv : bvN s i (k + 1) j = m + 128 * V := by rw [hm, r2, hV]; rfl
            have w5 : IntKind.u64.wrap (((V * 128 : Nat) : Int) + m) = ((bvN s i (k + 1) j : Nat) : Int) := by rw [wu64 (by omega) (by omega)]; omega
            have w6 : IntKind.i64.wrap ((j : Int) - 1) = (j : Int) - 1 := wi (by omega) (by omega)
            obtain ⟨VV, hVV⟩ : ∃ VV, VV = V * 128 := ⟨_, rfl⟩
            rw [← hVV] at w4 w5
            simp [s18_0, q0, q5, q6, h10, h10', hat2, bv, t1, w3, w4, w5, w6]
            refine ⟨i + 1 - (k + 1), by omega, k + 1, by omega, rfl, rfl, fun h9 h10 => ?_, by simp [q0], by simp [q4], ?_, ?_⟩
            · subst h9
              have hk9 : k = 9 := by omega
              subst hk9
              have hj0 : j = 0 := by omega
              subst hj0
              have hla := bvN_last s 9 8 1
              have e8 : (128 : Nat) ^ 8 = 72057594037927936 := by decide
              rw [e8] at hla
              have hV' : V = bvN s 9 (8 + 1) 1 := hV
              have e9 : by0 s (1 + 8) = by0 s 9 := rfl
              rw [e9, Nat.mod_eq_of_lt h7] at hla
              omega
            · have : i + 1 - (k + 1) = j := by omega
              simp [this]
            · have : (j : Int) - 1 = (i : Int) - (k + 1 : Nat) := by omega
              simp [this]
        · have hk1 : k = i + 1 := by omega
          subst hk1
          have hneg : (i : Int) - (i + 1 : Nat) = -1 := by omega
          rw [hneg] at q6
          have h00 : i + 1 - (i + 1) = 0 := by omega
          rw [h00] at q5
          obtain ⟨V, hV⟩ : ∃ V, V = bvN s i (i + 1) 0 := ⟨_, rfl⟩
          rw [← hV] at q5 hps
          have hV64 : V < 18446744073709551616 := by
            rcases Nat.lt_or_ge i 9 with h | h
            · have h1 := bvN_lt s i (i + 1) 0
              have : 128 ^ (i + 1) ≤ 128 ^ 9 := Nat.pow_le_pow_right (by omega) (by omega)
              have e8 : (128 : Nat) ^ 9 = 9223372036854775808 := by decide
              omega
            · have hi9 : i = 9 := by omega
              subst hi9
              have h1 := bvN_one s 9 9 0 (hv rfl rfl)
              have e8 : (128 : Nat) ^ 9 = 9223372036854775808 := by decide
              rw [e8] at h1
              have hV' : V = bvN s 9 (9 + 1) 0 := hV
              omega
          have w7 : IntKind.i64.wrap ((i : Int) + 1) = ((i + 1 : Nat) : Int) := by rw [wi (by omega) (by omega)]; omega
          have hup := fun K => s_upto (S := S) (e := []) (H := H2) (K := K) (l := s) (k := .i64) (b := ((i + 1 : Nat) : Int))
          have hle : (0 : Int) ≤ ((i + 1 : Nat) : Int) ∧ ((i + 1 : Nat) : Int) ≤ s.length := by omega
          obtain ⟨i1, hi1⟩ : ∃ i1, i1 = i + 1 := ⟨_, rfl⟩
          rw [← hi1] at w7 hup hle hps
          simp only [if_pos hle, Int.toNat_natCast] at hup
          simp [s18_0, q0, q4, q5, q6, w7, hup]
          refine (rGroup_t V hV64).mono ?_
          rintro r H3 ⟨hk3, rfl⟩
          by_cases h11 : (i = 9 ∧ 1 < by0 s i) ∨ (0 < i ∧ by0 s i = 0)
          · rw [if_pos h11] at hps
            have hne : ¬ grp V = s.take i1 := fun he => by
              have h12 := grp_pG V 0 (s.drop i1) (by omega) (by simpa using hV64) (by omega)
              rw [he, List.take_append_drop, hps] at h12
              cases h12
            have hg : gFirst s = .tuple #[.int .u64 0, .int .i64 0] := by unfold gFirst; rw [hps]
            simp [s_neq, hne, hg, tup]
            exact hk3
          · rw [if_neg h11] at hps
            have heq : grp V = s.take i1 := by
              have h12 := (pG_grp s 0 V _ hps).1
              have h13 : s.take i1 ++ s.drop i1 = grp V ++ s.drop i1 := by rw [List.take_append_drop]; exact h12
              exact (List.append_cancel_right h13).symm
            have hg : gFirst s = .tuple #[.int .u64 (V : Int), .int .i64 (i1 : Int)] := by
              have : s.length - (s.length - i1) = i1 := by omega
              unfold gFirst; rw [hps]; simp only [List.length_drop, this]
            simp [s_neq, heq, hg, tup, q4, q5, w7]
            exact hk3
end Go.Proofs.YtlboioplemlneaaGreat.K
