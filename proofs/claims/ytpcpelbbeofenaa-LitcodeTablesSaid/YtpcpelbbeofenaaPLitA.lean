/- Lengths as bytes: what the program and the document write. -/
import Derived.Test.YtpcpelbbeofenaaPHuffC
import Derived.Test.YtpcpelbbeofenaaPCurA
set_option maxRecDepth 100000
set_option maxHeartbeats 2000000
set_option linter.unusedVariables false
set_option linter.unusedSimpArgs false
namespace Go.Proofs.Ytpcpelbbeofenaa.K
open Go Go.Proofs
/-- how many there are but for noughts at the end -/
def stp (l : List Int) : Nat → Nat
  | 0 => 0
  | n + 1 => if at0 l n = 0 then stp l n else n + 1
theorem stp_le (l : List Int) : ∀ n, stp l n ≤ n
  | 0 => by simp [stp]
  | n + 1 => by
    have := stp_le l n
    simp only [stp]; split <;> omega
def shortN (l : List Int) : Nat := stp l l.length
def short (l : List Int) : List Int := l.take (shortN l)
theorem short_len (l : List Int) : (short l).length = shortN l := by
  have := stp_le l l.length
  unfold short shortN; rw [List.length_take]; omega
theorem short_at {l : List Int} {i : Nat} (h : i < shortN l) : at0 (short l) i = at0 l i := by
  unfold at0 short
  rw [List.getD_eq_getElem?_getD, List.getD_eq_getElem?_getD, List.getElem?_take, if_pos h]
theorem short_out {l : List Int} {i : Nat} (h : shortN l ≤ i) : at0 (short l) i = 0 := by
  unfold at0
  rw [List.getD_eq_getElem?_getD, List.getElem?_eq_none (by rw [short_len]; exact h)]; rfl
def u8 (x : Int) : UInt8 := UInt8.ofNat x.toNat
/-- a byte of two lengths -/
def pairB (l : List Int) (j : Nat) : UInt8 := u8 (at0 l (2 * j) + 16 * at0 l (2 * j + 1))
def tabs (l : List Int) (k : Nat) : Bytes := (List.range k).map (pairB l)
theorem tabs_succ (l : List Int) (k : Nat) : tabs l (k + 1) = tabs l k ++ [pairB l k] := by simp [tabs, List.range_succ]
def tableOf (l : List Int) : Bytes := u8 ((shortN l : Int) - 1) :: tabs (short l) ((shortN l + 1) / 2)
/-- numbers that may be read, and cut -/
def Is (H : Heap) (v : Value) (l : List Int) : Prop := (v = .slice none 0 0 ∧ l = []) ∨ ∃ b o c cs rw, v = .slice (some ⟨b, o, none⟩) l.length c ∧ (c = capx ∨ l.length ≤ c) ∧ H.get b = .cells cs 3 rw ∧ ∀ (i : Nat) x, l[i]? = some x → cs[o + i]? = some (.int .i64 x)
theorem Is.kp {H H' : Heap} {v : Value} {l : List Int} (h : Is H v l) (hk : Kp H.next H H') : Is H' v l := by
  rcases h with h | ⟨b, o, c, cs, rw, h1, h2, h3, h4⟩
  · exact .inl h
  · exact .inr ⟨b, o, c, cs, rw, h1, h2, (hk.2 b (lt_cells h3)).trans h3, h4⟩
theorem Is.iv {H : Heap} {v : Value} {l : List Int} (h : Is H v l) : ∃ a c, v = .slice a l.length c ∧ Iv H a l := by
  rcases h with ⟨rfl, rfl⟩ | ⟨b, o, c, cs, rw, h1, h2, h3, h4⟩
  · exact ⟨none, 0, rfl, fun h => by simp at h⟩
  · exact ⟨_, _, h1, fun _ => ⟨b, o, cs, rw, rfl, h3, h4⟩⟩
theorem run_slc0 {S : Sys} {H : Heap} {K : Kv} {b o n c : Nat} {cs : List Value} {t : TypeId} {rw : Bool} {m : Nat} (hc : c = capx ∨ n ≤ c) (hg : H.get b = .cells cs t rw) (hm : m ≤ n) :
    run S (.slc t 1 (.c (.slice (some ⟨b, o, none⟩) n c)) none (some (.c (.int .i64 m)))) [] H K = K (.slice (some ⟨b, o, none⟩) m (if c = capx then capx else c)) H := by
  show oT ((kSlc H t 1 (.slice (some ⟨b, o, none⟩) n c) 0 (some (m : Int))).map (·, H)) K = _
  simp only [kSlc, hg, if_true, Option.getD_some, addOff]
  by_cases h : c = capx
  · subst h
    simp [hm]
  · have h2 : n ≤ c := hc.resolve_left h
    have h3 : (0 : Int) ≤ m ∧ (m : Int) ≤ c := by omega
    simp [h]
    split
    · rename_i h0
      simp
    · rename_i h0; omega
section
variable {H : Heap}
theorem shortN_le (l : List Int) : shortN l ≤ l.length := stp_le _ _
theorem cut_short {a : Option Addr} {c : Nat} {l : List Int} (h : Is H (.slice a l.length c) l) : ∃ v', Is H v' (short l) ∧ ∀ K : Kv, run S (.slc 3 1 (.c (.slice a l.length c)) none (some (.c (.int .i64 (shortN l))))) [] H K = K v' H := by
  have hle := shortN_le l
  rcases h with ⟨h1, rfl⟩ | ⟨b, o, c', cs, rw, h1, h2, h3, h4⟩
  · simp only [Value.slice.injEq] at h1
    obtain ⟨rfl, _, rfl⟩ := h1
    refine ⟨.slice none 0 0, .inl ⟨rfl, rfl⟩, ?_⟩
    have : shortN [] = 0 := rfl
    intro K; rw [this]; rfl
  · simp only [Value.slice.injEq] at h1
    obtain ⟨rfl, _, rfl⟩ := h1
    refine ⟨_, ?_, fun K => run_slc0 h2 h3 hle⟩
    refine .inr ⟨b, o, if c = capx then capx else c, cs, rw, by rw [short_len], ?_, h3, fun i x hx => ?_⟩
    · rw [short_len]
      rcases h2 with h2 | h2
      · left; rw [if_pos h2]
      · by_cases hc : c = capx
        · left; rw [if_pos hc]
        · right; rw [if_neg hc]; omega
    · unfold short at hx
      rw [List.getElem?_take] at hx
      split at hx
      · exact h4 i x hx
      · cases hx
theorem Short_t {v : Value} {l : List Int} (h : Is H v l) (hm : l.length ≤ 1000000) : Wf S 107 [v] H fun v' H' => H' = H ∧ Is H v' (short l) := by
  refine w107 rfl rfl _ ?_
  obtain ⟨a, c, rfl, hiv⟩ := h.iv
  simp [s107]
  refine l107_0 S (fun d e H' => d ≤ l.length ∧ H' = H ∧ e 0 = .slice a l.length c ∧ e 3 = .int .i64 d ∧ stp l d = shortN l) l.length ⟨by omega, rfl, by simp, by simp, rfl⟩ ?_
  rintro d e H' ⟨hn, rfl, e0, e3, hst⟩
  cases d with
  | zero =>
    have h0 : shortN l = 0 := by rw [← hst]; rfl
    obtain ⟨v', q1, q2⟩ := cut_short h
    rw [h0, show ((0 : Nat) : Int) = 0 from rfl] at q2
    simp [s107_0, e0, e3]
    rw [q2]
    exact ⟨rfl, q1⟩
  | succ n =>
    obtain ⟨b, o, cs, rw, rfl, hg, hc⟩ := hiv (by omega)
    obtain ⟨x, hx⟩ : ∃ x, l[n]? = some x := ⟨_, List.getElem?_eq_getElem (by omega)⟩
    have hcx := hc n x hx
    have hax := at0_of hx
    have hw : IntKind.i64.wrap ((n : Int) + 1 - 1) = n := by rw [wi (by omega) (by omega)]; omega
    have hw2 : IntKind.i64.wrap (n : Int) = n := wi (by omega) (by omega)
    have hp : (0 : Int) < (n : Int) + 1 := by omega
    have hn1 : n < l.length := by omega
    by_cases g : x = 0
    · subst g
      simp [s107_0, e0, e3, hp, hw, hw2, hn1, addOff, hg, hcx]
      refine ⟨n, by omega, by omega, rfl, ?_⟩
      rw [← hst]; simp [stp, hax]
    · have h0 : shortN l = n + 1 := by rw [← hst]; simp [stp, hax, g]
      obtain ⟨v', q1, q2⟩ := cut_short h
      rw [h0, show ((n + 1 : Nat) : Int) = (n : Int) + 1 by omega] at q2
      simp [s107_0, e0, e3, hp, hw, hw2, hn1, addOff, hg, hcx, g]
      rw [q2]
      exact ⟨rfl, q1⟩
theorem rShort_t {v : Value} {l : List Int} (h : Is H v l) (hm : l.length ≤ 1000000) : Wf S 42 [v] H fun v' H' => H' = H ∧ Is H v' (short l) := by
  refine w42 rfl rfl _ ?_
  obtain ⟨a, c, rfl, hiv⟩ := h.iv
  simp [s42]
  refine l42_0 S (fun d e H' => d ≤ l.length ∧ H' = H ∧ e 0 = .slice a l.length c ∧ e 3 = .int .i64 d ∧ stp l d = shortN l) l.length ⟨by omega, rfl, by simp, by simp, rfl⟩ ?_
  rintro d e H' ⟨hn, rfl, e0, e3, hst⟩
  cases d with
  | zero =>
    have h0 : shortN l = 0 := by rw [← hst]; rfl
    obtain ⟨v', q1, q2⟩ := cut_short h
    rw [h0, show ((0 : Nat) : Int) = 0 from rfl] at q2
    simp [s42_0, e0, e3]
    rw [q2]
    exact ⟨rfl, q1⟩
  | succ n =>
    obtain ⟨b, o, cs, rw, rfl, hg, hc⟩ := hiv (by omega)
    obtain ⟨x, hx⟩ : ∃ x, l[n]? = some x := ⟨_, List.getElem?_eq_getElem (by omega)⟩
    have hcx := hc n x hx
    have hax := at0_of hx
    have hw : IntKind.i64.wrap ((n : Int) + 1 - 1) = n := by rw [wi (by omega) (by omega)]; omega
    have hw2 : IntKind.i64.wrap (n : Int) = n := wi (by omega) (by omega)
    have hp : (0 : Int) < (n : Int) + 1 := by omega
    have hn1 : n < l.length := by omega
    by_cases g : x = 0
    · subst g
      simp [s42_0, e0, e3, hp, hw, hw2, hn1, addOff, hg, hcx]
      refine ⟨n, by omega, by omega, rfl, ?_⟩
      rw [← hst]; simp [stp, hax]
    · have h0 : shortN l = n + 1 := by rw [← hst]; simp [stp, hax, g]
      obtain ⟨v', q1, q2⟩ := cut_short h
      rw [h0, show ((n + 1 : Nat) : Int) = (n : Int) + 1 by omega] at q2
      simp [s42_0, e0, e3, hp, hw, hw2, hn1, addOff, hg, hcx, g]
      rw [q2]
      exact ⟨rfl, q1⟩
end
end Go.Proofs.Ytpcpelbbeofenaa.K
