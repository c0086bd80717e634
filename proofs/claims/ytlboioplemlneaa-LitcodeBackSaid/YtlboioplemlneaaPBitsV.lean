/- Lengths that aren't whole have no bytes; bytes that are read as a text. -/
import Derived.Test.YtlboioplemlneaaPBitsU
set_option maxRecDepth 100000
set_option maxHeartbeats 2000000
set_option linter.unusedVariables false
set_option linter.unusedSimpArgs false
namespace Go.Proofs.Ytlboioplemlneaa.K
open Go Go.Proofs
section
variable {H : Heap} {a : Option Addr} {c : Nat} {l : List Int}
theorem Table_no (hl : Iv H a l) (hm : (l.length : Int) ≤ 9223372036854775807) (hw : ¬ wholeB l = true) : Wf S 26 [.slice a l.length c] H fun r H' => H' = H ∧ r = .tuple #[.string (ofL []), .bool false] := by
  refine w26 rfl rfl _ ?_
  simp [s26]
  refine (Whole_t hl hm).mono ?_
  rintro r H1 ⟨rfl, rfl⟩
  simp [hw, tup, bs_ofL]
theorem kRow_kp {H H' : Heap} {t : TypeId} {z n : Nat} {a : Option Addr} {r : List Value} (h : kRow H t z n a = some r) (hk : Kp H.next H H') : kRow H' t z n a = some r := by
  cases a with
  | none => exact h
  | some a =>
    simp only [kRow] at h ⊢
    cases hg : H.get a.block with
    | cells c t' rw => rw [hg] at h; rw [hk.2 _ (lt_cells hg), hg]; exact h
    | _ => rw [hg] at h; cases h
theorem arg_row {b : Nat} {kv : Value} {blk : Blk} (h : ArgSl [.int .u8] 5 b kv blk) : ∃ a c, ∃ l : Bytes, kv = .slice a l.length c ∧ (l.length : Int) ≤ 9223372036854775807 ∧ (0 < l.length → a = some ⟨b, 0, none⟩ ∧ blk = .cells (bvs l) 5 false) ∧ ∀ H : Heap, H.get b = blk → kRow H 5 1 l.length a = some (bvs l) := by
  rcases h with rfl | ⟨m, cs, hm, hs, rfl, rfl⟩
  · exact ⟨none, 0, [], rfl, by simp, by simp, fun _ _ => rfl⟩
  · obtain ⟨l, rfl, rfl, hb⟩ := sks_rows (f := fun x : UInt8 => [bv x]) (good := fun _ => True) (by decide) (fun vs h => by
      obtain ⟨_, _, rfl, ⟨k, rfl, hk⟩, rfl⟩ := h
      simp [Lit.wf, IntKind.min, IntKind.max, IntKind.signed, IntKind.bits] at hk
      refine ⟨UInt8.ofNat k.toNat, ?_, trivial⟩
      have : (UInt8.ofNat k.toNat).toNat = k.toNat := by simp; omega
      simp only [bv, this]
      congr 2; omega) m cs hs
    have hf := bvs_flat l
    refine ⟨_, _, l, rfl, by unfold maxLen at hm; omega, fun _ => ⟨rfl, by rw [hf]⟩, fun H hg => ?_⟩
    rw [hf] at hg
    simp only [kRow, hg, if_true, rd, Nat.mul_one, bvs_len, Nat.zero_add, Nat.le_refl, List.drop_zero]
    rw [← bvs_len l, List.take_length]
end
end Go.Proofs.Ytlboioplemlneaa.K
