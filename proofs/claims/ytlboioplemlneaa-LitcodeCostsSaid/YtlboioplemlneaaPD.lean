/- Laws of layer 10: what they ask first, and their bytes. -/
import Derived.Test.YtlboioplemlneaaPC
set_option maxRecDepth 100000
set_option maxHeartbeats 2000000
set_option linter.unusedVariables false
set_option linter.unusedSimpArgs false
namespace Go.Proofs.Ytlboioplemlneaa.K
open Go Go.Proofs
theorem ints_flat : ∀ l : List Int, l.flatMap (fun x : Int => [Value.int .i64 x]) = ints l
  | [] => rfl
  | x :: l => by
    have := ints_flat l
    simp only [List.flatMap_cons, this, ints, List.map_cons]; rfl
theorem arg_ints {b : Nat} {kv : Value} {blk : Blk} (h : ArgSl [.int .i64] 3 b kv blk) : ∃ a c, ∃ l : List Int, kv = .slice a l.length c ∧ (l.length : Int) ≤ 9223372036854775807 ∧ (∀ x ∈ l, -9223372036854775808 ≤ x ∧ x ≤ 9223372036854775807) ∧ (0 < l.length → a = some ⟨b, 0, none⟩ ∧ blk = .cells (ints l) 3 false) := by
  rcases h with rfl | ⟨m, cs, hm, hs, rfl, rfl⟩
  · exact ⟨none, 0, [], rfl, by simp, by simp, by simp⟩
  · obtain ⟨l, rfl, rfl, hb⟩ := sks_rows (f := fun x : Int => [.int .i64 x]) (good := fun x => -9223372036854775808 ≤ x ∧ x ≤ 9223372036854775807) (by decide) (fun vs h => by
      obtain ⟨_, _, rfl, ⟨k, rfl, hk⟩, rfl⟩ := h
      exact ⟨k, rfl, bounds_i64 hk⟩) m cs hs
    have hf := ints_flat l
    exact ⟨_, _, l, rfl, by unfold maxLen at hm; omega, hb, fun _ => ⟨rfl, by rw [hf]⟩⟩
theorem iv_of {H : Heap} {b : Nat} {a : Option Addr} {blk : Blk} {l : List Int} (h : 0 < l.length → a = some ⟨b, 0, none⟩ ∧ blk = .cells (ints l) 3 false) (hg : H.get b = blk) : Iv H a l := fun hp => by
  obtain ⟨h1, h2⟩ := h hp
  exact ⟨b, 0, ints l, false, h1, hg.trans h2, fun i x hx => by simp [ints, hx]⟩
theorem bvs_flat : ∀ l : Bytes, l.flatMap (fun x : UInt8 => [bv x]) = bvs l
  | [] => rfl
  | x :: l => by
    have := bvs_flat l
    simp only [List.flatMap_cons, this, bvs, List.map_cons]; rfl
theorem bvv_of {H : Heap} {b : Nat} {a : Option Addr} {blk : Blk} {l : Bytes} (h : 0 < l.length → a = some ⟨b, 0, none⟩ ∧ blk = .cells (bvs l) 5 false) (hg : H.get b = blk) : Bv H a l := fun hp => by
  obtain ⟨h1, h2⟩ := h hp
  exact ⟨b, 0, bvs l, false, h1, hg.trans h2, fun i x hx => by simp [bvs, hx]⟩
theorem aw (blk : Blk) : (evFn S 60 21 [] [blk]).map (fun p => (p.1, p.2.get 0)) = some (.bool true, blk) := by kernel_rfl
theorem aw2 (blk b2 : Blk) : (evFn S 60 21 [] [blk, b2]).map (fun p => (p.1, p.2.get 0, p.2.get 1)) = some (.bool true, blk, b2) := by kernel_rfl
theorem aw' (blk : Blk) : Wf S 21 [] [blk] fun v H' => v = .bool true ∧ H'.get 0 = blk := (run_of (aw blk)).mono fun v H' h => by simpa using h
theorem aw2' (blk b2 : Blk) : Wf S 21 [] [blk, b2] fun v H' => v = .bool true ∧ H'.get 0 = blk ∧ H'.get 1 = b2 := (run_of (aw2 blk b2)).mono fun v H' h => by simpa using h
end Go.Proofs.Ytlboioplemlneaa.K
/- Lengths that aren't whole have no bytes; bytes that are read as a text. -/
set_option maxRecDepth 100000
set_option maxHeartbeats 2000000
set_option linter.unusedVariables false
set_option linter.unusedSimpArgs false
namespace Go.Proofs.Ytlboioplemlneaa.K
open Go Go.Proofs
section
variable {H : Heap} {a : Option Addr} {c : Nat} {l : List Int}
theorem Table_no (hl : Iv H a l) (hm : (l.length : Int) ≤ 9223372036854775807) (hw : ¬ wholeB l = true) : Wf S 26 [.slice a l.length c] H fun r H' => H' = H ∧ r = .tuple #[.string (ofL []), .bool false] := by
  refine w26 rfl rfl _ ?_
  simp [s26]
  refine (Whole_t hl hm).mono ?_
  rintro r H1 ⟨rfl, rfl⟩
  simp [hw, tup, bs_ofL]
theorem kRow_kp {H H' : Heap} {t : TypeId} {z n : Nat} {a : Option Addr} {r : List Value} (h : kRow H t z n a = some r) (hk : Kp H.next H H') : kRow H' t z n a = some r := by
  cases a with
  | none => exact h
  | some a =>
    simp only [kRow] at h ⊢
    cases hg : H.get a.block with
    | cells c t' rw => rw [hg] at h; rw [hk.2 _ (lt_cells hg), hg]; exact h
    | _ => rw [hg] at h; cases h
theorem arg_row {b : Nat} {kv : Value} {blk : Blk} (h : ArgSl [.int .u8] 5 b kv blk) : ∃ a c, ∃ l : Bytes, kv = .slice a l.length c ∧ (l.length : Int) ≤ 9223372036854775807 ∧ (0 < l.length → a = some ⟨b, 0, none⟩ ∧ blk = .cells (bvs l) 5 false) ∧ ∀ H : Heap, H.get b = blk → kRow H 5 1 l.length a = some (bvs l) := by
  rcases h with rfl | ⟨m, cs, hm, hs, rfl, rfl⟩
  · exact ⟨none, 0, [], rfl, by simp, by simp, fun _ _ => rfl⟩
  · obtain ⟨l, rfl, rfl, hb⟩ := sks_rows (f := fun x : UInt8 => [bv x]) (good := fun _ => True) (by decide) (fun vs h => by
      obtain ⟨_, _, rfl, ⟨k, rfl, hk⟩, rfl⟩ := h
      simp [Lit.wf, IntKind.min, IntKind.max, IntKind.signed, IntKind.bits] at hk
      refine ⟨UInt8.ofNat k.toNat, ?_, trivial⟩
      have : (UInt8.ofNat k.toNat).toNat = k.toNat := by simp; omega
      simp only [bv, this]
      congr 2; omega) m cs hs
    have hf := bvs_flat l
    refine ⟨_, _, l, rfl, by unfold maxLen at hm; omega, fun _ => ⟨rfl, by rw [hf]⟩, fun H hg => ?_⟩
    rw [hf] at hg
    simp only [kRow, hg, if_true, rd, Nat.mul_one, bvs_len, Nat.zero_add, Nat.le_refl, List.drop_zero]
    rw [← bvs_len l, List.take_length]
end
end Go.Proofs.Ytlboioplemlneaa.K
