/- Which symbol's code comes next, plainly; decoding, plainly. -/
import Derived.Test.YtlboioplemlneaaPBitsP
set_option maxRecDepth 100000
set_option maxHeartbeats 2000000
set_option linter.unusedVariables false
set_option linter.unusedSimpArgs false
namespace Go.Proofs.Ytlboioplemlneaa.K
open Go Go.Proofs
/-- does the code of symbol k begin at a? -/
def Beg (l : List Int) (s : Bytes) (a k : Nat) : Prop := k < l.length ∧ 0 < at0 l k ∧ a + (at0 l k).toNat ≤ 8 * s.length ∧ revB s a (at0 l k).toNat = (codeOf l k).toNat
theorem rev_div (s : Bytes) (a n : Nat) : ∀ m, revB s a (n + m) / 2 ^ m = revB s a n
  | 0 => by simp
  | m + 1 => by
    have hb := bitAt_lt s (a + (n + m))
    rw [← Nat.add_assoc, Nat.pow_succ, Nat.mul_comm (2 ^ m), ← Nat.div_div_eq_div_mul]
    simp only [revB]
    have : (2 * revB s a (n + m) + bitAt s (a + (n + m))) / 2 = revB s a (n + m) := by omega
    rw [this, rev_div s a n m]
theorem code_nn {l : List Int} (hall : ∀ k, 0 ≤ at0 l k ∧ at0 l k ≤ 11) (hlen : l.length ≤ 256) {k : Nat} (hk : k < l.length) : 0 ≤ codeOf l k := by
  unfold codeOf
  split
  · rename_i h
    have := hall k
    exact (code_bd hall hlen (n := (at0 l k).toNat) (s := k) (by omega) (by omega) (by omega)).1
  · omega
theorem beg_le {l : List Int} (hr : rightB l = true) {s : Bytes} {a k k' : Nat} (h : Beg l s a k) (h' : Beg l s a k') (hle : at0 l k ≤ at0 l k') : k = k' := by
  have hall := right_all hr
  have hlen := right_len hr
  obtain ⟨h1, h2, h3, h4⟩ := h
  obtain ⟨q1, q2, q3, q4⟩ := h'
  by_cases hne : k = k'
  · exact hne
  · exfalso
    have hp := pre_ne hall h1 q1 h2 q2 hle hne
    have c1 := code_nn hall hlen h1
    have c2 := code_nn hall hlen q1
    apply hp
    have hd := rev_div s a (at0 l k).toNat (at0 l k' - at0 l k).toNat
    have e : (at0 l k).toNat + (at0 l k' - at0 l k).toNat = (at0 l k').toNat := by omega
    rw [e, q4, h4] at hd
    have hpp := p2_pos (at0 l k' - at0 l k).toNat
    rw [Int.fdiv_eq_ediv_of_nonneg _ (by omega)]
    have e2 : p2 (at0 l k' - at0 l k).toNat = ((2 ^ (at0 l k' - at0 l k).toNat : Nat) : Int) := by unfold p2; exact_mod_cast rfl
    rw [e2]
    have e3 : codeOf l k' = ((codeOf l k').toNat : Int) := by omega
    rw [e3, ← Int.natCast_ediv, hd]; omega
theorem beg_uniq {l : List Int} (hr : rightB l = true) {s : Bytes} {a k k' : Nat} (h : Beg l s a k) (h' : Beg l s a k') : k = k' := by
  rcases Int.le_total (at0 l k) (at0 l k') with hle | hle
  · exact beg_le hr h h' hle
  · exact (beg_le hr h' h hle).symm
theorem sym_ex {l : List Int} {n : Nat} : ∀ s j, j < cntS l n s → ∃ k, k < s ∧ at0 l k = n ∧ cntS l n k = j
  | 0, j, h => by simp [cntS] at h
  | s + 1, j, h => by
    simp only [cntS] at h
    by_cases h1 : j < cntS l n s
    · obtain ⟨k, q1, q2, q3⟩ := sym_ex s j h1
      exact ⟨k, by omega, q2, q3⟩
    · split at h
      · rename_i he
        exact ⟨s, by omega, he, by omega⟩
      · omega
theorem cnt_lt {l : List Int} {n : Nat} {k : Nat} (he : at0 l k = n) : ∀ s, k < s → cntS l n k < cntS l n s
  | 0, h => by omega
  | s + 1, h => by
    simp only [cntS]
    by_cases h1 : k = s
    · subst h1; rw [if_pos he]; omega
    · have := cnt_lt he s (by omega)
      omega
theorem ord_pre {l : List Int} {n : Nat} (h1 : 1 ≤ n) (s : Nat) : ∀ t, ordAt l n s <+: ordAt l n (s + t)
  | 0 => List.prefix_refl _
  | t + 1 => (ord_pre h1 s t).trans (by rw [← Nat.add_assoc, ordAt_succ h1]; exact List.prefix_append _ _)
theorem ord_next {l : List Int} (n : Nat) : ordAt l (n + 1) 0 = ordAt l n l.length := by simp [ordAt]
theorem ord_pre2 {l : List Int} {n : Nat} (h1 : 1 ≤ n) : ∀ m, ordAt l (n + 1) 0 <+: ordAt l (n + 1 + m) 0
  | 0 => List.prefix_refl _
  | m + 1 => (ord_pre2 h1 m).trans (by
    rw [← Nat.add_assoc, ord_next (n + 1 + m)]
    have := ord_pre (l := l) (n := n + 1 + m) (by omega) 0 l.length
    rw [Nat.zero_add] at this; exact this)
theorem ord_at {l : List Int} {n k : Nat} (h1 : 1 ≤ n) (h2 : n ≤ 11) (hk : k < l.length) (he : at0 l k = n) : (ordAt l 12 0)[(ordAt l n 0).length + cntS l n k]? = some (UInt8.ofNat k) := by
  have e1 : (ordAt l n 0).length + cntS l n k = (ordAt l n k).length := by
    obtain ⟨m, rfl⟩ : ∃ m, n = m + 1 := ⟨n - 1, by omega⟩
    exact (ordAt_len l m k).symm
  have e2 : ordAt l n (k + 1) <+: ordAt l 12 0 := by
    obtain ⟨t, ht⟩ := Nat.exists_eq_add_of_le (show k + 1 ≤ l.length by omega)
    have p1 := ord_pre (l := l) h1 (k + 1) t
    rw [← ht, ← ord_next] at p1
    obtain ⟨m, hm⟩ := Nat.exists_eq_add_of_le (show n + 1 ≤ 12 by omega)
    have p2 := ord_pre2 (l := l) h1 m
    rw [← hm] at p2
    exact p1.trans p2
  rw [e1]
  obtain ⟨r, hr⟩ := e2
  rw [← hr, ordAt_succ h1, if_pos he]
  simp
/-- a length's code that is met is a symbol's -/
theorem hit_sym {l : List Int} (hr : rightB l = true) {s : Bytes} {a n : Nat} (h1 : 1 ≤ n) (h2 : n ≤ 11) (hn : a + n ≤ 8 * s.length) (h : Hit (Fq l 12) (Cq l 12) s a n) :
    ∃ k, Beg l s a k ∧ at0 l k = n ∧ (ordAt l 12 0).getD (Sq l 12 n + (revB s a n - Fq l 12 n)) 0 = UInt8.ofNat k := by
  have hall := right_all hr
  have hlen := right_len hr
  have f1 : Fq l 12 n = (codeAt l n 0).toNat := by unfold Fq; rw [if_pos (by omega)]
  have f2 : Cq l 12 n = cntS l n l.length := by unfold Cq; rw [if_pos (by omega)]
  have f3 : Sq l 12 n = (ordAt l n 0).length := by unfold Sq; rw [if_pos (by omega)]
  obtain ⟨q1, q2⟩ := h
  rw [f1, f2] at q2
  rw [f1] at q1
  obtain ⟨k, k1, k2, k3⟩ := sym_ex (l := l) (n := n) l.length (revB s a n - (codeAt l n 0).toNat) (by omega)
  have hb := code_bd hall hlen h1 h2 (Nat.zero_le l.length)
  refine ⟨k, ⟨k1, by rw [k2]; omega, by rw [k2]; omega, ?_⟩, k2, ?_⟩
  · have e : (at0 l k).toNat = n := by omega
    have hc : codeOf l k = codeAt l n k := by unfold codeOf; rw [if_pos (by omega), e]
    obtain ⟨m, rfl⟩ : ∃ m, n = m + 1 := ⟨n - 1, by omega⟩
    rw [e, hc, codeAt_cnt, k3]; omega
  · rw [f1, f3, ← k3, List.getD_eq_getElem?_getD, ord_at h1 h2 k1 k2]; rfl
theorem beg_hit {l : List Int} (hr : rightB l = true) {s : Bytes} {a k : Nat} (h : Beg l s a k) : Hit (Fq l 12) (Cq l 12) s a (at0 l k).toNat := by
  have hall := right_all hr
  have hlen := right_len hr
  obtain ⟨h1, h2, h3, h4⟩ := h
  have hk := hall k
  obtain ⟨n, hn⟩ : ∃ n, n = (at0 l k).toNat := ⟨_, rfl⟩
  have hat : at0 l k = n := by omega
  rw [← hn] at h4 ⊢
  have f1 : Fq l 12 n = (codeAt l n 0).toNat := by unfold Fq; rw [if_pos (by omega)]
  have f2 : Cq l 12 n = cntS l n l.length := by unfold Cq; rw [if_pos (by omega)]
  have hc : codeOf l k = codeAt l n k := by unfold codeOf; rw [if_pos (by omega), ← hn]
  have hb := code_bd hall hlen (n := n) (by omega) (by omega) (Nat.zero_le l.length)
  have hl := cnt_lt hat l.length h1
  obtain ⟨m, rfl⟩ : ∃ m, n = m + 1 := ⟨n - 1, by omega⟩
  have := codeAt_cnt l m k
  unfold Hit
  rw [f1, f2, h4, hc, this]
  omega
open Classical in
/-- i symbols, one behind the other: which ones, and how many bits they took -/
noncomputable def decI (l : List Int) (s : Bytes) : Nat → Option (Bytes × Nat)
  | 0 => some ([], 0)
  | i + 1 => (decI l s i).bind fun p => if h : ∃ k, Beg l s p.2 k then some (p.1 ++ [UInt8.ofNat h.choose], p.2 + (at0 l h.choose).toNat) else none
theorem decI_hit {l : List Int} (hr : rightB l = true) {s : Bytes} {i a k : Nat} {d : Bytes} (h : decI l s i = some (d, a)) (hb : Beg l s a k) : decI l s (i + 1) = some (d ++ [UInt8.ofNat k], a + (at0 l k).toNat) := by
  have hx : ∃ k, Beg l s a k := ⟨k, hb⟩
  have e : hx.choose = k := beg_uniq hr hx.choose_spec hb
  simp only [decI, h, Option.bind_some]
  rw [dif_pos hx, e]
theorem decI_miss {l : List Int} {s : Bytes} {i a : Nat} {d : Bytes} (h : decI l s i = some (d, a)) (hb : ∀ k, ¬ Beg l s a k) : decI l s (i + 1) = none := by
  simp only [decI, h, Option.bind_some]
  rw [dif_neg (fun ⟨k, hk⟩ => hb k hk)]
theorem decI_none {l : List Int} {s : Bytes} {i : Nat} (h : decI l s i = none) : ∀ m, decI l s (i + m) = none
  | 0 => h
  | m + 1 => by
    have := decI_none h m
    rw [← Nat.add_assoc]
    simp only [decI, this, Option.bind_none]
theorem decI_inv {l : List Int} (hr : rightB l = true) {s : Bytes} : ∀ i d a, decI l s i = some (d, a) → d.length = i ∧ a ≤ 8 * s.length ∧ (bitsB s).take a = encB l d ∧ okB l d
  | 0, d, a, h => by simp [decI] at h; obtain ⟨rfl, rfl⟩ := h; exact ⟨rfl, by omega, by simp [encB], by simp [okB]⟩
  | i + 1, d, a, h => by
    have hall := right_all hr
    have hlen := right_len hr
    simp only [decI, Option.bind_eq_some_iff] at h
    obtain ⟨⟨d0, a0⟩, h0, h⟩ := h
    obtain ⟨q1, q2, q3, q4⟩ := decI_inv hr i d0 a0 h0
    split at h
    · rename_i hx
      have hb := hx.choose_spec
      generalize hx.choose = k at h hb
      simp only [Option.some.injEq, Prod.mk.injEq] at h
      obtain ⟨rfl, rfl⟩ := h
      obtain ⟨b1, b2, b3, b4⟩ := hb
      have hkn : (UInt8.ofNat k).toNat = k := by simp; omega
      have hcn := code_nn hall hlen b1
      refine ⟨by simp [q1], by simpa using b3, ?_, ?_⟩
      · have e : encB l (d0 ++ [UInt8.ofNat k]) = encB l d0 ++ codeB l k := by simp [encB, hkn]
        have hc : (codeOf l k).toNat < 2 ^ (at0 l k).toNat := by rw [← b4]; exact revB_lt s a0 _
        have hbi := (begins_iff (s := s) (a := a0) (c := (codeOf l k).toNat) (n := (at0 l k).toNat) hc b3).2 b4
        rw [e, ← q3, List.take_add]
        congr 1
      · intro x hx
        rcases List.mem_append.1 hx with hx | hx
        · exact q4 x hx
        · simp only [List.mem_singleton] at hx; subst hx; rw [hkn]; exact b2
    · cases h
/-- what n symbols are, if but a few noughts stand behind them -/
noncomputable def decF (l : List Int) (s : Bytes) (n : Nat) : Option Bytes := (decI l s n).bind fun p => if 8 * s.length - p.2 ≤ 7 ∧ numB s p.2 (8 * s.length - p.2) = 0 then some p.1 else none
end Go.Proofs.Ytlboioplemlneaa.K
