/- What a writer of bits holds, as bytes of its own. -/
import Derived.Test.YtlboioplemlneaaPBitsE
set_option maxRecDepth 100000
set_option maxHeartbeats 2000000
set_option linter.unusedVariables false
set_option linter.unusedSimpArgs false
namespace Go.Proofs.Ytlboioplemlneaa.K
open Go Go.Proofs
section
variable {H : Heap}
def BwB (sv : Value) (n : Nat) : Blk := .cells [sv, .int .i64 n] 99 true
theorem WBytes_t {w n m c : Nat} {a : Option Addr} {cs : List Value} (hg : H.get w = BwB (.slice a n c) m) (hr : kRow H 5 1 n a = some cs) (hl : cs.length = n) (hn : n ≤ 1000000) :
    Wf S 73 [.pointer (some ⟨w, 0, none⟩)] H fun v H' => Kp H.next H H' ∧ Acc 5 1 H.next H'.next H' v n cs := by
  refine w73 rfl rfl _ ?_
  have hg' : H.get w = .cells [.slice a n c, .int .i64 m] 99 true := hg
  by_cases h0 : n = 0
  · subst h0
    have hc : cs = [] := List.eq_nil_of_length_eq_zero hl
    subst hc
    simp [s73, kEq, addOff, hg', hr, kApp]
    exact ⟨Kp.refl _ _, Acc.nil⟩
  · obtain ⟨v2, H2, hap, hA2, hn2, hk2⟩ := (Acc.nil (t := 5) (z := 1) (N := H.next) (M := H.next) (H := H)).appN (m := n) (bytes := 1) (new := cs) (Nat.le_refl _) (Nat.le_refl _) (by omega) (by omega) (by unfold roomMax; omega)
    simp [s73, kEq, addOff, hg', hr, hap]
    refine ⟨⟨by omega, fun k hk => hk2 k hk (.inl hk)⟩, ?_⟩
    simpa using hA2
end
end Go.Proofs.Ytlboioplemlneaa.K
