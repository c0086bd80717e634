/- Laws of layer 33: what they ask first, and their acts. -/
import Derived.Test.YtlboioplemlneaaPScrE
set_option maxRecDepth 100000
set_option maxHeartbeats 4000000
set_option linter.unusedVariables false
set_option linter.unusedSimpArgs false
namespace Go.Proofs.Ytlboioplemlneaa.K
open Go Go.Proofs
theorem aw : (evFn S 60 13 [] []).map (fun p => p.1) = some (.bool true) := by kernel_rfl
theorem aw' : Wf S 13 [] [] fun v H' => v = .bool true := (run_of aw).mono fun v H' h => h
theorem Acc.av {N M : Nat} {H : Heap} {v : Value} {L : List Ac} (h : Acc 25 5 N M H v L.length (L.flatMap Ac.cells)) : ∃ a c, v = .slice a L.length c ∧ Av H a L := by
  rcases h with ⟨h0, h2, rfl⟩ | ⟨b, c, h1, h2, h3, h4, h5, h6⟩
  · exact ⟨none, 0, by rw [h0], fun hp => by omega⟩
  · exact ⟨_, c, h3, fun _ => ⟨b, true, rfl, h5⟩⟩
theorem awb (blk : Blk) : (evFn S 60 13 [] [blk]).map (fun p => (p.1, p.2.get 0)) = some (.bool true, blk) := by kernel_rfl
theorem awb' (blk : Blk) : Wf S 13 [] [blk] fun v H' => v = .bool true ∧ H'.get 0 = blk := (run_of (awb blk)).mono fun v H' h => by simpa using h
theorem arg_acts {b : Nat} {kv : Value} {blk : Blk} (h : ArgSl [.int .i64, .int .i64, .int .i64, .bool, .str] 25 b kv blk) : ∃ a c, ∃ L : List Ac, kv = .slice a L.length c ∧ (L.length : Int) ≤ 9223372036854775807 ∧ (∀ x ∈ L, x.data.length ≤ maxLen) ∧ ∀ H : Heap, H.get b = blk → Av H a L := by
  rcases h with rfl | ⟨m, cs, hm, hs, rfl, rfl⟩
  · exact ⟨none, 0, [], rfl, by simp, by simp, fun H _ hp => by simp at hp⟩
  · obtain ⟨L, rfl, rfl, hb⟩ := sks_rows (f := Ac.cells) (good := fun x => x.data.length ≤ maxLen) (by decide) (fun vs h => by
      obtain ⟨_, _, rfl, ⟨k1, rfl, h1⟩, _, _, rfl, ⟨k2, rfl, h2⟩, _, _, rfl, ⟨k3, rfl, h3⟩, _, _, rfl, ⟨k4, rfl⟩, _, _, rfl, ⟨k5, rfl, h5⟩, rfl⟩ := h
      exact ⟨⟨k1, k2, k3, k4, k5.data.toList⟩, by simp [Ac.cells, ofL_data], by simpa using h5⟩) m cs hs
    exact ⟨_, _, L, rfl, by unfold maxLen at hm; omega, hb, fun H hg _ => ⟨b, false, rfl, hg⟩⟩
end Go.Proofs.Ytlboioplemlneaa.K
