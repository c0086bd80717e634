/- Numbers that may be read, and cut. -/
import Derived.Test.YtlboioplemlneaaPHuffC
import Derived.Test.YtlboioplemlneaaPCurA
set_option maxRecDepth 100000
set_option maxHeartbeats 2000000
set_option linter.unusedVariables false
set_option linter.unusedSimpArgs false
namespace Go.Proofs.Ytlboioplemlneaa.K
open Go Go.Proofs
/-- numbers that may be read, and cut -/
def Is (H : Heap) (v : Value) (l : List Int) : Prop := (v = .slice none 0 0 ∧ l = []) ∨ ∃ b o c cs rw, v = .slice (some ⟨b, o, none⟩) l.length c ∧ (c = capx ∨ l.length ≤ c) ∧ H.get b = .cells cs 3 rw ∧ ∀ (i : Nat) x, l[i]? = some x → cs[o + i]? = some (.int .i64 x)
theorem Is.kp {H H' : Heap} {v : Value} {l : List Int} (h : Is H v l) (hk : Kp H.next H H') : Is H' v l := by
  rcases h with h | ⟨b, o, c, cs, rw, h1, h2, h3, h4⟩
  · exact .inl h
  · exact .inr ⟨b, o, c, cs, rw, h1, h2, (hk.2 b (lt_cells h3)).trans h3, h4⟩
theorem Is.iv {H : Heap} {v : Value} {l : List Int} (h : Is H v l) : ∃ a c, v = .slice a l.length c ∧ Iv H a l := by
  rcases h with ⟨rfl, rfl⟩ | ⟨b, o, c, cs, rw, h1, h2, h3, h4⟩
  · exact ⟨none, 0, rfl, fun h => by simp at h⟩
  · exact ⟨_, _, h1, fun _ => ⟨b, o, cs, rw, rfl, h3, h4⟩⟩
theorem run_slc0 {S : Sys} {H : Heap} {K : Kv} {b o n c : Nat} {cs : List Value} {t : TypeId} {rw : Bool} {m : Nat} (hc : c = capx ∨ n ≤ c) (hg : H.get b = .cells cs t rw) (hm : m ≤ n) :
    run S (.slc t 1 (.c (.slice (some ⟨b, o, none⟩) n c)) none (some (.c (.int .i64 m)))) [] H K = K (.slice (some ⟨b, o, none⟩) m (if c = capx then capx else c)) H := by
  show oT ((kSlc H t 1 (.slice (some ⟨b, o, none⟩) n c) 0 (some (m : Int))).map (·, H)) K = _
  simp only [kSlc, hg, if_true, Option.getD_some, addOff]
  by_cases h : c = capx
  · subst h
    simp [hm]
  · have h2 : n ≤ c := hc.resolve_left h
    have h3 : (0 : Int) ≤ m ∧ (m : Int) ≤ c := by omega
    simp [h]
    split
    · rename_i h0
      simp
    · rename_i h0; omega
theorem run_slcF {S : Sys} {H : Heap} {K : Kv} {b o n c : Nat} {cs : List Value} {t : TypeId} {rw : Bool} {m : Nat} (hc : c = capx ∨ n ≤ c) (hg : H.get b = .cells cs t rw) (hm : m ≤ n) :
    run S (.slc t 1 (.c (.slice (some ⟨b, o, none⟩) n c)) (some (.c (.int .i64 m))) none) [] H K = K (.slice (some ⟨b, if c ≠ capx ∧ m = c then o else o + m, none⟩) (n - m) (if c = capx then capx else c - m)) H := by
  show oT ((kSlc H t 1 (.slice (some ⟨b, o, none⟩) n c) (m : Int) none).map (·, H)) K = _
  simp only [kSlc, hg, if_true, Option.getD_none, addOff]
  by_cases h : c = capx
  · subst h
    have h1 : (0 : Int) ≤ m ∧ (m : Int) ≤ n ∧ (n : Int) ≤ n := by omega
    rw [if_pos rfl, if_pos h1]
    have h2 : ((n : Int) - m).toNat = n - m := by omega
    simp [h2]
  · have h2 : n ≤ c := hc.resolve_left h
    have h3 : (0 : Int) ≤ m ∧ (m : Int) ≤ n ∧ (n : Int) ≤ c := by omega
    rw [if_neg h, if_pos h3]
    have h2 : ((n : Int) - m).toNat = n - m := by omega
    by_cases h4 : m = c
    · simp [h, h2, h4]
    · simp [h, h2, h4]
theorem Is.cut {S : Sys} {H : Heap} {v : Value} {l : List Int} (h : Is H v l) {m : Nat} (hm : m ≤ l.length) : ∃ v', Is H v' (l.drop m) ∧ ∀ K : Kv, run S (.slc 3 1 (.c v) (some (.c (.int .i64 m))) none) [] H K = K v' H := by
  rcases h with ⟨rfl, rfl⟩ | ⟨b, o, c, cs, rw, rfl, h2, h3, h4⟩
  · have : m = 0 := by simpa using hm
    subst this
    exact ⟨.slice none 0 0, .inl ⟨rfl, rfl⟩, fun K => rfl⟩
  · refine ⟨_, ?_, fun K => run_slcF h2 h3 hm⟩
    refine .inr ⟨b, _, _, cs, rw, by rw [List.length_drop], ?_, h3, fun i x hx => ?_⟩
    · rw [List.length_drop]
      by_cases hc : c = capx
      · exact .inl (if_pos hc)
      · rw [if_neg hc]; right
        have := h2.resolve_left hc
        omega
    · rw [List.getElem?_drop] at hx
      have hlt : m + i < l.length := by
        rcases Nat.lt_or_ge (m + i) l.length with h | h
        · exact h
        · rw [List.getElem?_eq_none h] at hx; cases hx
      have := h4 _ x hx
      have e : ¬ (c ≠ capx ∧ m = c) := by
        rintro ⟨q1, q2⟩
        have := h2.resolve_left q1
        omega
      rw [if_neg e]
      rw [← this]; congr 1; omega
/-- the same, told of all heaps in which the numbers stand -/
theorem Is.cut2 {S : Sys} {H : Heap} {v : Value} {l : List Int} (h : Is H v l) {m : Nat} (hm : m ≤ l.length) : ∃ v', ∀ H', Is H' v l → Is H' v' (l.drop m) ∧ ∀ K : Kv, run S (.slc 3 1 (.c v) (some (.c (.int .i64 m))) none) [] H' K = K v' H' := by
  obtain ⟨v', h1, h2⟩ := h.cut (S := S) hm
  refine ⟨v', fun H' h' => ?_⟩
  obtain ⟨v2, q1, q2⟩ := h'.cut (S := S) hm
  have : v2 = v' := by
    rcases h with ⟨rfl, rfl⟩ | ⟨b, o, c, cs, rw, rfl, r2, r3, r4⟩
    · have : m = 0 := by simpa using hm
      subst this
      have e1 := h2 fun v _ => v = v'
      have e2 := q2 fun v _ => v = v'
      have a1 : (run S (.slc 3 1 (.c (.slice none 0 0)) (some (.c (.int .i64 (0 : Nat)))) none) [] H fun v _ => v = v') = ((Value.slice none 0 0) = v') := rfl
      have a2 : (run S (.slc 3 1 (.c (.slice none 0 0)) (some (.c (.int .i64 (0 : Nat)))) none) [] H' fun v _ => v = v') = ((Value.slice none 0 0) = v') := rfl
      rw [a1] at e1
      rw [a2] at e2
      rw [← e2, e1]
    · rcases h' with ⟨e, _⟩ | ⟨b', o', c', cs', rw', e, s2, s3, s4⟩
      · cases e
      · simp only [Value.slice.injEq] at e
        obtain ⟨e1, _, e2⟩ := e
        cases e1
        subst e2
        have e1 := h2 fun v _ => v = v'
        have e2 := q2 fun v _ => v = v'
        rw [run_slcF r2 r3 hm] at e1
        rw [run_slcF s2 s3 hm] at e2
        rw [← e2, e1]
  rw [← this]
  exact ⟨q1, q2⟩
end Go.Proofs.Ytlboioplemlneaa.K
