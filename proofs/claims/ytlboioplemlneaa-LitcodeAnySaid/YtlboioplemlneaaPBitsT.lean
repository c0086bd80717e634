/- Bytes in code, and what is read of them, plainly. -/
import Derived.Test.YtlboioplemlneaaPBitsS
set_option maxRecDepth 100000
set_option maxHeartbeats 2000000
set_option linter.unusedVariables false
set_option linter.unusedSimpArgs false
namespace Go.Proofs.Ytlboioplemlneaa.K
open Go Go.Proofs
theorem bitsN_get {V n i : Nat} (h : i < n) : (bitsN V n)[i]? = some ((V / 2 ^ i % 2 : Nat) : Int) := by simp [bitsN, h]
theorem bitsN_inj {V W n : Nat} (hV : V < 2 ^ n) (hW : W < 2 ^ n) (h : bitsN V n = bitsN W n) : V = W := by
  refine bits_inj hV hW fun k hk => ?_
  have h1 := bitsN_get (V := V) hk
  rw [h, bitsN_get hk] at h1
  have := Option.some.inj h1
  omega
theorem packs_uniq {bits : List Int} {s s' : Bytes} (h : Packs bits s) (h' : Packs bits s') : s = s' := by
  obtain ⟨V, h1, h2, h3⟩ := h
  obtain ⟨W, q1, q2, q3⟩ := h'
  have : V = W := bitsN_inj h1 q1 (h2.trans q2.symm)
  rw [h3, q3, this]
theorem mod_bit (x r : Nat) (hr : r < 8) : x % 256 / 2 ^ r % 2 = x / 2 ^ r % 2 := by
  have : r = 0 ∨ r = 1 ∨ r = 2 ∨ r = 3 ∨ r = 4 ∨ r = 5 ∨ r = 6 ∨ r = 7 := by omega
  rcases this with rfl | rfl | rfl | rfl | rfl | rfl | rfl | rfl <;> omega
theorem packN_bit {V n i : Nat} (hi : i / 8 < (n + 7) / 8) : bitAt (packN V n) i = V / 2 ^ i % 2 := by
  unfold bitAt
  rw [List.getD_eq_getElem?_getD, packN_get hi]
  have h1 := nby_lt V (i / 8)
  have h2 : (UInt8.ofNat (nby V (i / 8))).toNat = nby V (i / 8) := by simp; omega
  show (UInt8.ofNat (nby V (i / 8))).toNat / 2 ^ (i % 8) % 2 = _
  rw [h2]
  unfold nby
  rw [mod_bit _ _ (Nat.mod_lt _ (by omega)), Nat.div_div_eq_div_mul, ← Nat.pow_add]
  have : 8 * (i / 8) + i % 8 = i := by omega
  rw [this]
/-- bytes are known by their bits -/
theorem bytes_ext {s t : Bytes} (hl : s.length = t.length) (h : ∀ i, i < 8 * s.length → bitAt s i = bitAt t i) : s = t := by
  apply List.ext_getElem hl
  intro j h1 h2
  have e1 : s.getD j 0 = s[j] := by rw [List.getD_eq_getElem?_getD, List.getElem?_eq_getElem h1]; rfl
  have e2 : t.getD j 0 = t[j] := by rw [List.getD_eq_getElem?_getD, List.getElem?_eq_getElem h2]; rfl
  have := s[j].toNat_lt
  have := t[j].toNat_lt
  apply UInt8.toNat_inj.1
  refine bits_inj (n := 8) (by omega) (by omega) fun k hk => ?_
  have hh := h (8 * j + k) (by omega)
  unfold bitAt at hh
  have q1 : (8 * j + k) / 8 = j := by omega
  have q2 : (8 * j + k) % 8 = k := by omega
  rw [q1, q2, e1, e2] at hh
  exact hh
theorem packs_len {bits : List Int} {s : Bytes} (h : Packs bits s) : s.length = (bits.length + 7) / 8 := by
  obtain ⟨V, h1, h2, h3⟩ := h
  rw [h3, packN_len]
theorem packs_bit {bits : List Int} {s : Bytes} (h : Packs bits s) {i : Nat} (hi : i < bits.length) : bits[i]? = some ((bitAt s i : Nat) : Int) := by
  obtain ⟨V, h1, h2, h3⟩ := h
  rw [h3, packN_bit (by omega)]
  have := bitsN_get (V := V) hi
  rw [h2] at this; exact this
theorem packs_zero {bits : List Int} {s : Bytes} (h : Packs bits s) {i : Nat} (h1 : bits.length ≤ i) (h2 : i < 8 * s.length) : bitAt s i = 0 := by
  have hl := packs_len h
  obtain ⟨V, q1, q2, q3⟩ := h
  rw [q3, packN_bit (by omega)]
  have : 2 ^ bits.length ≤ 2 ^ i := Nat.pow_le_pow_right (by omega) h1
  rw [Nat.div_eq_of_lt (by omega)]
/-- bytes whose first bits are these, and that have but a few noughts behind them -/
theorem packs_of {bits : List Int} {s s' : Bytes} {a : Nat} (h : Packs bits s') (ha : bits.length = a) (h1 : (bitsB s).take a = bits) (h2 : a ≤ 8 * s.length) (h3 : 8 * s.length - a ≤ 7) (h4 : numB s a (8 * s.length - a) = 0) : s' = s := by
  have hl := packs_len h
  refine bytes_ext (by omega) fun i hi => ?_
  by_cases hia : i < a
  · have q1 := packs_bit h (i := i) (by omega)
    have q2 := bitsB_get s i (by omega)
    rw [← h1, List.getElem?_take, if_pos hia, q2] at q1
    have := Option.some.inj q1
    omega
  · rw [packs_zero h (by omega) hi]
    have := (numB_zero s a _).1 h4 (i - a) (by omega)
    rw [show a + (i - a) = i by omega] at this
    exact this.symm
section
variable {l : List Int} {b s : Bytes}
theorem dec_enc (hw : wholeB l = true) (hok : okB l b) (hp : Packs (encB l b) s) : ∀ i, i ≤ b.length → decI l s i = some (b.take i, (encB l (b.take i)).length)
  | 0, _ => by simp [decI, encB]
  | i + 1, hi => by
    have hr : rightB l = true := by simp only [wholeB, Bool.and_eq_true] at hw; exact hw.1
    have hlen := right_len hr
    have ih := dec_enc hw hok hp i (by omega)
    obtain ⟨x, hx⟩ : ∃ x, b[i]? = some x := ⟨_, List.getElem?_eq_getElem (by omega)⟩
    have hox := hok x (List.mem_of_getElem? hx)
    have hxl : x.toNat < l.length := by
      rcases Nat.lt_or_ge x.toNat l.length with h | h
      · exact h
      · unfold at0 at hox; rw [List.getD_eq_getElem?_getD, List.getElem?_eq_none h] at hox; simp at hox
    have hsp : encB l b = encB l (b.take i) ++ (codeB l x.toNat ++ encB l (b.drop (i + 1))) := by
      have e2 : encB l (b.take (i + 1) ++ b.drop (i + 1)) = encB l (b.take (i + 1)) ++ encB l (b.drop (i + 1)) := by simp only [encB, List.flatMap_append]
      rw [List.take_append_drop] at e2
      rw [e2, encB_succ hx, List.append_assoc]
    have hll := congrArg List.length hsp
    simp only [List.length_append, codeB_len] at hll
    have hpl := packs_len hp
    have hbeg : Beg l s (encB l (b.take i)).length x.toNat := by
      refine (beg_iff hw hxl hox).1 ?_
      apply List.ext_getElem?
      intro j
      rw [codeB_len, List.getElem?_take]
      split
      · rename_i hj
        rw [List.getElem?_drop, bitsB_get s _ (by omega)]
        have := packs_bit hp (i := (encB l (b.take i)).length + j) (by omega)
        rw [← this, hsp, List.getElem?_append_right (by omega), List.getElem?_append_left (by rw [codeB_len]; omega)]
        congr 1; omega
      · rename_i hj
        rw [List.getElem?_eq_none (by rw [codeB_len]; omega)]
    have hxn : UInt8.ofNat x.toNat = x := by simp
    rw [decI_hit hr ih hbeg, hxn, encB_succ hx, List.length_append, codeB_len, List.take_add_one, hx]; rfl
theorem decF_enc (hw : wholeB l = true) (hok : okB l b) (hp : Packs (encB l b) s) : decF l s b.length = some b := by
  have h := dec_enc hw hok hp b.length (Nat.le_refl _)
  rw [List.take_length] at h
  have hpl := packs_len hp
  unfold decF
  rw [h]
  simp only [Option.bind_some]
  rw [if_pos ⟨by omega, (numB_zero _ _ _).2 fun i hi => packs_zero hp (by omega) (by omega)⟩]
theorem decF_back {n : Nat} {d s' : Bytes} (hw : wholeB l = true) (h : decF l s n = some d) (hp : Packs (encB l d) s') : s' = s ∧ okB l d ∧ d.length = n := by
  have hr : rightB l = true := by simp only [wholeB, Bool.and_eq_true] at hw; exact hw.1
  unfold decF at h
  simp only [Option.bind_eq_some_iff] at h
  obtain ⟨⟨d0, a⟩, h1, h2⟩ := h
  split at h2
  · rename_i hc
    simp only [Option.some.injEq] at h2
    subst h2
    obtain ⟨q1, q2, q3, q4⟩ := decI_inv hr n d0 a h1
    have hbl := bitsB_len s
    have hal : (encB l d0).length = a := by rw [← q3, List.length_take]; omega
    exact ⟨packs_of hp hal q3 q2 hc.1 hc.2, q4, q1⟩
  · cases h2
theorem decF_ok {n : Nat} {d : Bytes} (hw : wholeB l = true) (h : decF l s n = some d) : okB l d ∧ d.length = n := by
  have hr : rightB l = true := by simp only [wholeB, Bool.and_eq_true] at hw; exact hw.1
  unfold decF at h
  simp only [Option.bind_eq_some_iff] at h
  obtain ⟨⟨d0, a⟩, h1, h2⟩ := h
  split at h2
  · simp only [Option.some.injEq] at h2
    subst h2
    obtain ⟨q1, q2, q3, q4⟩ := decI_inv hr n d0 a h1
    exact ⟨q4, q1⟩
  · cases h2
end
end Go.Proofs.Ytlboioplemlneaa.K
