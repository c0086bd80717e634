/- Do bits begin with these? -/
import Derived.Test.YtlboioplemlneaaPBitsE
set_option maxRecDepth 100000
set_option maxHeartbeats 2000000
set_option linter.unusedVariables false
set_option linter.unusedSimpArgs false
namespace Go.Proofs.Ytlboioplemlneaa.K
open Go Go.Proofs
section
variable {H : Heap}
theorem take_iff {l m : List Int} : l.take m.length = m ↔ m.length ≤ l.length ∧ ∀ j, j < m.length → l[j]? = m[j]? := by
  constructor
  · intro h
    have hl := congrArg List.length h
    rw [List.length_take] at hl
    refine ⟨by omega, fun j hj => ?_⟩
    have q : (l.take m.length)[j]? = l[j]? := by rw [List.getElem?_take, if_pos hj]
    rw [← q, h]
  · rintro ⟨h1, h2⟩
    apply List.ext_getElem?
    intro j
    rw [List.getElem?_take]
    split
    · rename_i hj; exact h2 j hj
    · rename_i hj; rw [List.getElem?_eq_none (by omega)]
theorem begins_t {a a2 : Option Addr} {c c2 : Nat} {l m : List Int} (hl : Iv H a l) (hm : Iv H a2 m) (b1 : l.length ≤ 1000000) (b2 : m.length ≤ 1000000) :
    Wf S 69 [.slice a l.length c, .slice a2 m.length c2] H fun v H' => H' = H ∧ v = .bool (decide (l.take m.length = m)) := by
  refine w69 rfl rfl _ _ ?_
  by_cases h0 : l.length < m.length
  · have hf : ¬ l.take m.length = m := by rw [take_iff]; omega
    simp [s69, h0, hf]
  · simp [s69, h0]
    refine l69_0 S (fun d e H' => ∃ i : Nat, i ≤ m.length ∧ d = m.length - i ∧ H' = H ∧ (∀ j, j < i → l[j]? = m[j]?) ∧ e 0 = .slice a l.length c ∧ e 1 = .slice a2 m.length c2 ∧ e 5 = .int .i64 (i : Int)) m.length ⟨0, by omega, by omega, rfl, by omega, by simp, by simp, by simp⟩ ?_
    rintro d e H' ⟨i, hi, rfl, rfl, hj, e0, e1, e5⟩
    by_cases h3 : i < m.length
    · have h4 : i < l.length := by omega
      obtain ⟨b, o, cs, rw, rfl, hg, hc⟩ := hl (by omega)
      obtain ⟨b', o', cs', rw', rfl, hg', hc'⟩ := hm (by omega)
      obtain ⟨x, hx⟩ : ∃ x, l[i]? = some x := ⟨_, List.getElem?_eq_getElem h4⟩
      obtain ⟨y, hy⟩ : ∃ y, m[i]? = some y := ⟨_, List.getElem?_eq_getElem h3⟩
      have hcx := hc _ x hx
      have hcy := hc' _ y hy
      have w2 : IntKind.i64.wrap ((i : Int) + 1) = (i : Int) + 1 := wi (by omega) (by omega)
      by_cases hxy : x = y
      · subst hxy
        simp [s69_0, e0, e1, e5, h3, h4, addOff, hg, hg', hcx, hcy, w2]
        refine ⟨m.length - (i + 1), by omega, i + 1, by omega, rfl, fun j hj' => ?_, by simp⟩
        by_cases hji : j = i
        · rw [hji, hx, hy]
        · exact hj j (by omega)
      · have hf : ¬ l.take m.length = m := by
          rw [take_iff]
          rintro ⟨_, q⟩
          have := q i h3
          rw [hx, hy] at this
          exact hxy (Option.some.inj this)
        simp [s69_0, e0, e1, e5, h3, h4, addOff, hg, hg', hcx, hcy, w2, hxy, hf]
    · have h5 : i = m.length := by omega
      subst h5
      have hf : l.take m.length = m := take_iff.2 ⟨by omega, hj⟩
      simp [s69_0, e1, e5, hf]
end
end Go.Proofs.Ytlboioplemlneaa.K
