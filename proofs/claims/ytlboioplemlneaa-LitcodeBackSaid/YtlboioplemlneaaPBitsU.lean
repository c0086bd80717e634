/- Laws of layer 10: what they ask first, and their bytes. -/
import Derived.Test.YtlboioplemlneaaPBitsT
set_option maxRecDepth 100000
set_option maxHeartbeats 2000000
set_option linter.unusedVariables false
set_option linter.unusedSimpArgs false
namespace Go.Proofs.Ytlboioplemlneaa.K
open Go Go.Proofs
theorem ints_flat : ∀ l : List Int, l.flatMap (fun x : Int => [Value.int .i64 x]) = ints l
  | [] => rfl
  | x :: l => by
    have := ints_flat l
    simp only [List.flatMap_cons, this, ints, List.map_cons]; rfl
theorem arg_ints {b : Nat} {kv : Value} {blk : Blk} (h : ArgSl [.int .i64] 3 b kv blk) : ∃ a c, ∃ l : List Int, kv = .slice a l.length c ∧ (l.length : Int) ≤ 9223372036854775807 ∧ (∀ x ∈ l, -9223372036854775808 ≤ x ∧ x ≤ 9223372036854775807) ∧ (0 < l.length → a = some ⟨b, 0, none⟩ ∧ blk = .cells (ints l) 3 false) := by
  rcases h with rfl | ⟨m, cs, hm, hs, rfl, rfl⟩
  · exact ⟨none, 0, [], rfl, by simp, by simp, by simp⟩
  · obtain ⟨l, rfl, rfl, hb⟩ := sks_rows (f := fun x : Int => [.int .i64 x]) (good := fun x => -9223372036854775808 ≤ x ∧ x ≤ 9223372036854775807) (by decide) (fun vs h => by
      obtain ⟨_, _, rfl, ⟨k, rfl, hk⟩, rfl⟩ := h
      exact ⟨k, rfl, bounds_i64 hk⟩) m cs hs
    have hf := ints_flat l
    exact ⟨_, _, l, rfl, by unfold maxLen at hm; omega, hb, fun _ => ⟨rfl, by rw [hf]⟩⟩
theorem iv_of {H : Heap} {b : Nat} {a : Option Addr} {blk : Blk} {l : List Int} (h : 0 < l.length → a = some ⟨b, 0, none⟩ ∧ blk = .cells (ints l) 3 false) (hg : H.get b = blk) : Iv H a l := fun hp => by
  obtain ⟨h1, h2⟩ := h hp
  exact ⟨b, 0, ints l, false, h1, hg.trans h2, fun i x hx => by simp [ints, hx]⟩
theorem bvs_flat : ∀ l : Bytes, l.flatMap (fun x : UInt8 => [bv x]) = bvs l
  | [] => rfl
  | x :: l => by
    have := bvs_flat l
    simp only [List.flatMap_cons, this, bvs, List.map_cons]; rfl
theorem bvv_of {H : Heap} {b : Nat} {a : Option Addr} {blk : Blk} {l : Bytes} (h : 0 < l.length → a = some ⟨b, 0, none⟩ ∧ blk = .cells (bvs l) 5 false) (hg : H.get b = blk) : Bv H a l := fun hp => by
  obtain ⟨h1, h2⟩ := h hp
  exact ⟨b, 0, bvs l, false, h1, hg.trans h2, fun i x hx => by simp [bvs, hx]⟩
theorem aw (blk : Blk) : (evFn S 60 21 [] [blk]).map (fun p => (p.1, p.2.get 0)) = some (.bool true, blk) := by kernel_rfl
theorem aw2 (blk b2 : Blk) : (evFn S 60 21 [] [blk, b2]).map (fun p => (p.1, p.2.get 0, p.2.get 1)) = some (.bool true, blk, b2) := by kernel_rfl
theorem aw' (blk : Blk) : Wf S 21 [] [blk] fun v H' => v = .bool true ∧ H'.get 0 = blk := (run_of (aw blk)).mono fun v H' h => by simpa using h
theorem aw2' (blk b2 : Blk) : Wf S 21 [] [blk, b2] fun v H' => v = .bool true ∧ H'.get 0 = blk ∧ H'.get 1 = b2 := (run_of (aw2 blk b2)).mono fun v H' h => by simpa using h
end Go.Proofs.Ytlboioplemlneaa.K
