/- Lengths as bytes: what the program reads is what the document reads. -/
import Derived.Test.YtpcpelbbeofenaaPLitC
set_option maxRecDepth 100000
set_option maxHeartbeats 2000000
set_option linter.unusedVariables false
set_option linter.unusedSimpArgs false
namespace Go.Proofs.Ytpcpelbbeofenaa.K
open Go Go.Proofs
def kN (s : Bytes) : Nat := (hdN s + 1) / 2
def pok (s : Bytes) : Prop := s ≠ [] ∧ atN s ≤ s.length ∧ (hdN s < 2 * kN s → nib s (hdN s) = 0) ∧ nib s (hdN s - 1) ≠ 0 ∧ wholeB (nibs s (hdN s)) = true
theorem stp_full {l : List Int} {n : Nat} (hn : 1 ≤ n) (h : stp l n = n) : at0 l (n - 1) ≠ 0 := by
  cases n with
  | zero => omega
  | succ n =>
    simp only [stp] at h
    split at h
    · have := stp_le l n; omega
    · assumption
theorem stp_top {l : List Int} {n : Nat} (hn : 1 ≤ n) (h : at0 l (n - 1) ≠ 0) : stp l n = n := by
  cases n with
  | zero => omega
  | succ n =>
    simp only [stp]
    rw [if_neg (by simpa using h)]
theorem at0_nibs {s : Bytes} {n i : Nat} (h : i < n) : at0 (nibs s n) i = nib s i := at0_of (nibs_get h)
theorem at0_nibs_out {s : Bytes} {n i : Nat} (h : n ≤ i) : at0 (nibs s n) i = 0 := by
  unfold at0; rw [List.getD_eq_getElem?_getD, List.getElem?_eq_none (by rw [nibs_len]; exact h)]; rfl
theorem byte_nibs (s : Bytes) (j : Nat) : nib s (2 * j) + 16 * nib s (2 * j + 1) = byteAt s (1 + j) := by
  have h1 : nib s (2 * j) = byteAt s (1 + j) % 16 := by unfold nib; rw [if_neg (by omega)]; congr 2; omega
  have h2 : nib s (2 * j + 1) = byteAt s (1 + j) / 16 := by unfold nib; rw [if_pos (by omega)]; congr 2; omega
  rw [h1, h2]; omega
theorem u8_byte {s : Bytes} {i : Nat} {b : UInt8} (h : s[i]? = some b) : u8 (byteAt s i) = b := by
  rw [byteAt_get h]; unfold u8; simp
theorem short_full {l : List Int} (h : shortN l = l.length) : short l = l := by unfold short; rw [h, List.take_length]
theorem tabs_get {l : List Int} {k j : Nat} (h : j < k) : (tabs l k)[j]? = some (pairB l j) := by simp [tabs, h]
theorem tabs_len (l : List Int) (k : Nat) : (tabs l k).length = k := by simp [tabs]
theorem pok_iff (s : Bytes) : pok s ↔ rok s := by
  by_cases hs : s = []
  · exact ⟨fun h => absurd hs h.1, fun h => absurd hs h.1⟩
  by_cases hat0 : ¬ atN s ≤ s.length
  · exact ⟨fun h => absurd h.2.1 hat0, fun h => absurd h.2.1 hat0⟩
  have hat : atN s ≤ s.length := Decidable.not_not.mp hat0
  by_cases hw0 : ¬ wholeB (nibs s (hdN s)) = true
  · exact ⟨fun h => absurd h.2.2.2.2 hw0, fun h => absurd h.2.2.1 hw0⟩
  have hw : wholeB (nibs s (hdN s)) = true := Decidable.not_not.mp hw0
  have hbd := hdN_bd s
  have hln := nibs_len s (hdN s)
  have hatN : atN s = 1 + kN s := rfl
  have hkN : kN s = (hdN s + 1) / 2 := rfl
  obtain ⟨c0, hc0⟩ : ∃ c0, s[0]? = some c0 := by
    cases s with
    | nil => exact absurd rfl hs
    | cons c s => exact ⟨c, rfl⟩
  have hc0n : c0.toNat + 1 = hdN s := by
    cases s with
    | nil => simp at hc0
    | cons c s => simp at hc0; subst hc0; rfl
  have hpos := whole_pos hw
  have hsle := shortN_le (nibs s (hdN s))
  rw [hln] at hsle
  -- one place of the table, where nothing is cut
  have key : shortN (nibs s (hdN s)) = hdN s → ∀ j, j < kN s → ∀ b, s[1 + j]? = some b → (pairB (nibs s (hdN s)) j = b ↔ (2 * j + 1 = hdN s → nib s (hdN s) = 0)) := by
    intro hsh j hj b hb
    have hbb := byte_nibs s j
    have h0 := nib_bd s (2 * j)
    have h1 := nib_bd s (2 * j + 1)
    have ha : at0 (nibs s (hdN s)) (2 * j) = nib s (2 * j) := at0_nibs (by omega)
    have hu := u8_byte hb
    by_cases he : 2 * j + 1 = hdN s
    · have ha2 : at0 (nibs s (hdN s)) (2 * j + 1) = 0 := at0_nibs_out (by omega)
      unfold pairB
      rw [ha, ha2]
      constructor
      · intro h _
        rw [← he]
        have e1 : ((u8 (nib s (2 * j) + 16 * 0)).toNat : Int) = nib s (2 * j) + 16 * 0 := u8_nat (by omega) (by omega)
        rw [h, ← byteAt_get hb] at e1
        omega
      · intro h
        have h2 := h he
        rw [← he] at h2
        rw [← hu, ← hbb, h2]
    · have ha2 : at0 (nibs s (hdN s)) (2 * j + 1) = nib s (2 * j + 1) := at0_nibs (by omega)
      unfold pairB
      rw [ha, ha2, hbb, hu]
      exact ⟨fun _ h => absurd h he, fun _ => rfl⟩
  constructor
  · rintro ⟨_, _, h1, h2, _⟩
    refine ⟨hs, hat, hw, ?_⟩
    have hsh : shortN (nibs s (hdN s)) = hdN s := by
      unfold shortN; rw [hln]
      exact stp_top hbd.1 (by rw [at0_nibs (by omega)]; exact h2)
    have hsf : short (nibs s (hdN s)) = nibs s (hdN s) := short_full (by rw [hsh, hln])
    unfold tableOf
    rw [hsh, hsf, ← hkN]
    apply List.ext_getElem?
    intro i
    cases i with
    | zero =>
      rw [List.getElem?_take, if_pos (by omega), hc0]
      have : (hdN s : Int) - 1 = byteAt s 0 := by rw [byteAt_get hc0]; omega
      simp only [List.getElem?_cons_zero]
      rw [this, u8_byte hc0]
    | succ j =>
      rw [List.getElem?_take]
      simp only [List.getElem?_cons_succ]
      by_cases hj : j < kN s
      · rw [if_pos (by omega), tabs_get hj]
        obtain ⟨b, hb⟩ : ∃ b, s[1 + j]? = some b := ⟨_, List.getElem?_eq_getElem (by omega)⟩
        rw [Nat.add_comm j 1, hb]
        congr 1
        exact (key hsh j hj b hb).mpr fun he => h1 (by omega)
      · rw [if_neg (by omega), List.getElem?_eq_none (by rw [tabs_len]; omega)]
  · rintro ⟨_, _, _, ht⟩
    -- the head tells how many there are
    have hh := congrArg (fun l : Bytes => l[0]?) ht
    simp only [tableOf, List.getElem?_cons_zero] at hh
    rw [List.getElem?_take, if_pos (by omega), hc0] at hh
    have hh' := Option.some.inj hh
    have e1 : ((u8 ((shortN (nibs s (hdN s)) : Int) - 1)).toNat : Int) = (shortN (nibs s (hdN s)) : Int) - 1 := u8_nat (by omega) (by omega)
    rw [hh'] at e1
    have hsh : shortN (nibs s (hdN s)) = hdN s := by omega
    have hsf : short (nibs s (hdN s)) = nibs s (hdN s) := short_full (by rw [hsh, hln])
    have h2 : nib s (hdN s - 1) ≠ 0 := by
      have := stp_full (l := nibs s (hdN s)) hbd.1 (by have := hsh; unfold shortN at this; rw [hln] at this; exact this)
      rwa [at0_nibs (by omega)] at this
    refine ⟨hs, hat, fun hlt => ?_, h2, hw⟩
    have hj : kN s - 1 < kN s := by omega
    obtain ⟨b, hb⟩ : ∃ b, s[1 + (kN s - 1)]? = some b := ⟨_, List.getElem?_eq_getElem (by omega)⟩
    have hj2 := congrArg (fun l : Bytes => l[1 + (kN s - 1)]?) ht
    simp only [tableOf] at hj2
    rw [hsh, hsf, Nat.add_comm 1 (kN s - 1), List.getElem?_cons_succ, List.getElem?_take, if_pos (by omega)] at hj2
    have : (tabs (nibs s (hdN s)) ((hdN s + 1) / 2))[kN s - 1]? = some (pairB (nibs s (hdN s)) (kN s - 1)) := tabs_get hj
    rw [this, Nat.add_comm (kN s - 1) 1, hb] at hj2
    exact (key hsh (kN s - 1) hj b hb).mp (Option.some.inj hj2) (by omega)
theorem and15 : ∀ b : Fin 256, (BitVec.ofInt 8 (b.val : Int) &&& BitVec.ofInt 8 15).toNat = b.val % 16 := by decide
theorem kb_and15 (b : UInt8) : kBin .and (.int .u8 b.toNat) (.int .u8 15) = some (.int .u8 ((b.toNat : Int) % 16)) := by
  have hb := b.toNat_lt
  rw [kb_and]
  have h := and15 ⟨b.toNat, by omega⟩
  simp only at h
  have hbits : IntKind.u8.bits = 8 := rfl
  rw [hbits, h, wrap8 (by omega) (by omega)]
  congr 2
theorem kb_shr4 (b : UInt8) : kBin .shr (.int .u8 b.toNat) (.int .u64 4) = some (.int .u8 ((b.toNat : Int) / 16)) := by
  rw [kb_shr, if_neg (by omega)]
  have hm : min (4 : Int).toNat IntKind.u8.bits = 4 := by decide
  rw [hm]
  congr 2
  rw [Int.fdiv_eq_ediv_of_nonneg _ (by omega)]; rfl
/-- what is laid behind j bytes -/
def lay (s : Bytes) (j : Nat) : List Int := nibs s (2 * j) ++ List.replicate (hdN s + 1 - 2 * j) 0
theorem lay_len {s : Bytes} {j : Nat} (h : 2 * j ≤ hdN s + 1) : (lay s j).length = hdN s + 1 := by simp [lay, nibs_len]; omega
theorem lay_succ {s : Bytes} {j : Nat} (h : 2 * (j + 1) ≤ hdN s + 1) : wr (ints (lay s j)) (2 * j) [.int .i64 (nib s (2 * j)), .int .i64 (nib s (2 * j + 1))] = ints (lay s (j + 1)) := by
  have e1 : ints (lay s j) = ints (nibs s (2 * j)) ++ List.replicate (hdN s + 1 - 2 * j) (.int .i64 0) := by simp [lay, ints]
  have e2 : ints (lay s (j + 1)) = ints (nibs s (2 * j)) ++ [.int .i64 (nib s (2 * j)), .int .i64 (nib s (2 * j + 1))] ++ List.replicate (hdN s + 1 - 2 * (j + 1)) (.int .i64 0) := by
    have : nibs s (2 * (j + 1)) = nibs s (2 * j) ++ [nib s (2 * j), nib s (2 * j + 1)] := by
      rw [show 2 * (j + 1) = 2 * j + 1 + 1 by omega, nibs_succ, nibs_succ]; simp
    simp [lay, ints, this]
  have hl : (ints (nibs s (2 * j))).length = 2 * j := by simp [ints, nibs_len]
  rw [e1, e2]
  unfold wr
  rw [List.take_append_of_le_length (by omega), List.take_of_length_le (by omega)]
  congr 1
  rw [List.drop_append, List.drop_of_length_le (by rw [hl]; simp), List.nil_append, List.drop_replicate]
  congr 1
  simp [hl]; omega
theorem lay_get {s : Bytes} {j i : Nat} (h : i < 2 * j) : (lay s j)[i]? = some (nib s i) := by
  unfold lay
  rw [List.getElem?_append_left (by rw [nibs_len]; exact h), nibs_get h]
end Go.Proofs.Ytpcpelbbeofenaa.K
