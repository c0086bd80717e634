/- Codes of unlike lengths: whether lengths may be, and whether they are whole, by the program and by the document. -/
import Derived.Test.YtlboioplemlneaaKLowSh2
import Derived.Test.YtlboioplemlneaaKLib
import Derived.Test.YtlboioplemlneaaPHuffP
set_option maxRecDepth 100000
set_option maxHeartbeats 2000000
set_option linter.unusedVariables false
set_option linter.unusedSimpArgs false
namespace Go.Proofs.Ytlboioplemlneaa.K
open Go Go.Proofs
def S : Sys := ⟨F, M, fun _ => none⟩
theorem S_ok : SysOK Go.Proofs.Try.prog S := ⟨M_ok, by kernel_rfl, F_ok, fun f p h => by cases h⟩
/-- whole numbers that may be read -/
def Iv (H : Heap) (a : Option Addr) (l : List Int) : Prop := 0 < l.length → ∃ b o cs rw, a = some ⟨b, o, none⟩ ∧ H.get b = .cells cs 3 rw ∧ ∀ (i : Nat) x, l[i]? = some x → cs[o + i]? = some (.int .i64 x)
theorem Iv.kp {H H' : Heap} {a : Option Addr} {l : List Int} (h : Iv H a l) (hk : Kp H.next H H') : Iv H' a l := fun hp => by
  obtain ⟨b, o, cs, rw, h1, h2, h3⟩ := h hp
  exact ⟨b, o, cs, rw, h1, (hk.2 b (lt_cells h2)).trans h2, h3⟩
def okL (x : Int) : Bool := decide (0 ≤ x) && decide (x ≤ 11)
def AllOk (l : List Int) : Prop := l.all okL = true
theorem all_succ {p : Int → Bool} {l : List Int} {i : Nat} {x : Int} (h : l[i]? = some x) : (l.take (i + 1)).all p = ((l.take i).all p && p x) := by
  rw [List.take_add_one, h]; simp
theorem all_no {p : Int → Bool} {l : List Int} {i : Nat} {x : Int} (h : l[i]? = some x) (hp : p x = false) : l.all p = false := by
  rw [List.all_eq_false]
  exact ⟨x, List.mem_of_getElem? h, by simp [hp]⟩
theorem rightB_no {l : List Int} {i : Nat} {x : Int} (h : l[i]? = some x) (hp : okL x = false) : rightB l = false := by
  have : l.all (fun x => decide (0 ≤ x) && decide (x ≤ 11)) = false := all_no h hp
  simp only [rightB, this, Bool.false_and]
section
variable {H : Heap} {a : Option Addr} {c : Nat} {l : List Int}
theorem right_t (hl : Iv H a l) (hm : (l.length : Int) ≤ 9223372036854775807) : Wf S 92 [.slice a l.length c] H fun v H' => H' = H ∧ v = .bool (rightB l) := by
  refine w92 rfl rfl _ ?_
  simp [s92]
  refine l92_0 S (fun d e H' => ∃ i : Nat, i ≤ l.length ∧ d = l.length - i ∧ H' = H ∧ e 0 = .slice a l.length c ∧ e 5 = .slice a l.length c ∧ e 6 = .int .i64 l.length ∧ e 7 = .int .i64 i ∧ AllOk (l.take i)) l.length ⟨0, by omega, by omega, rfl, by simp, by simp, by simp, by simp, rfl⟩ ?_
  rintro d e H' ⟨i, hi, rfl, rfl, e0, e5, e6, e7, hok⟩
  by_cases h3 : i < l.length
  · obtain ⟨b, o, cs, rw, rfl, hg, hc⟩ := hl (by omega)
    obtain ⟨x, hx⟩ : ∃ x, l[i]? = some x := ⟨_, List.getElem?_eq_getElem h3⟩
    have hcx := hc i x hx
    have hw : IntKind.i64.wrap ((i : Int) + 1) = (i : Int) + 1 := wi (by omega) (by omega)
    by_cases g1 : x < 0
    · simp [s92_0, e5, e6, e7, h3, addOff, hg, hcx, g1]
      exact rightB_no hx (by simp [okL]; omega)
    by_cases g2 : 11 < x
    · simp [s92_0, e5, e6, e7, h3, addOff, hg, hcx, g1, g2]
      exact rightB_no hx (by simp [okL]; omega)
    · simp [s92_0, e5, e6, e7, h3, addOff, hg, hcx, g1, g2, hw]
      refine ⟨l.length - (i + 1), by omega, i + 1, by omega, rfl, e0, by simp, ?_⟩
      unfold AllOk at *
      rw [all_succ hx, hok]; simp [okL]; omega
  · have h5 : i = l.length := by omega
    subst h5
    have hok' : l.all (fun x => decide (0 ≤ x) && decide (x ≤ 11)) = true := by unfold AllOk at hok; rw [List.take_length] at hok; exact hok
    simp [s92_0, e0, e6, e7]
    simp only [rightB, hok', Bool.true_and]
    congr 1; apply propext; omega
theorem rright_t (hl : Iv H a l) (hm : (l.length : Int) ≤ 9223372036854775807) : Wf S 59 [.slice a l.length c] H fun v H' => H' = H ∧ v = .bool (rightB l) := by
  refine w59 rfl rfl _ ?_
  simp [s59]
  refine l59_0 S (fun d e H' => ∃ i : Nat, i ≤ l.length ∧ d = l.length - i ∧ H' = H ∧ e 0 = .slice a l.length c ∧ e 3 = .int .i64 i ∧ AllOk (l.take i)) l.length ⟨0, by omega, by omega, rfl, by simp, by simp, rfl⟩ ?_
  rintro d e H' ⟨i, hi, rfl, rfl, e0, e3, hok⟩
  by_cases h3 : i < l.length
  · obtain ⟨b, o, cs, rw, rfl, hg, hc⟩ := hl (by omega)
    obtain ⟨x, hx⟩ : ∃ x, l[i]? = some x := ⟨_, List.getElem?_eq_getElem h3⟩
    have hcx := hc i x hx
    have hw : IntKind.i64.wrap ((i : Int) + 1) = (i : Int) + 1 := wi (by omega) (by omega)
    by_cases g1 : x < 0
    · simp [s59_0, e0, e3, h3, addOff, hg, hcx, g1]
      exact rightB_no hx (by simp [okL]; omega)
    by_cases g2 : 11 < x
    · simp [s59_0, e0, e3, h3, addOff, hg, hcx, g1, g2]
      exact rightB_no hx (by simp [okL]; omega)
    · simp [s59_0, e0, e3, h3, addOff, hg, hcx, g1, g2, hw]
      refine ⟨l.length - (i + 1), by omega, i + 1, by omega, rfl, by simp, ?_⟩
      unfold AllOk at *
      rw [all_succ hx, hok]; simp [okL]; omega
  · have h5 : i = l.length := by omega
    subst h5
    have hok' : l.all (fun x => decide (0 ≤ x) && decide (x ≤ 11)) = true := by unfold AllOk at hok; rw [List.take_length] at hok; exact hok
    simp [s59_0, e0, e3]
    simp only [rightB, hok', Bool.true_and]
    congr 1; apply propext; omega
theorem Size_t (H : Heap) (n : Nat) (h1 : n ≤ 30) : Wf S 60 [.int .i64 n] H fun v H' => H' = H ∧ v = .int .i64 (p2 n) := by
  refine w60 rfl rfl _ ?_
  simp [s60]
  refine l60_0 S (fun d e H' => ∃ i : Nat, i ≤ n ∧ d = n - i ∧ H' = H ∧ e 0 = .int .i64 n ∧ e 3 = .int .i64 (p2 i) ∧ e 4 = .int .i64 i) n ⟨0, by omega, by omega, rfl, by simp, by simp [p2], by simp⟩ ?_
  rintro d e H' ⟨i, hi, rfl, rfl, e0, e3, e4⟩
  by_cases h3 : i < n
  · have hw : IntKind.i64.wrap ((i : Int) + 1) = (i : Int) + 1 := wi (by omega) (by omega)
    have hb : p2 i ≤ p2 30 := p2_mono (by omega)
    have hp := p2_pos i
    have e30 : p2 30 = 1073741824 := by decide
    have hw2 : IntKind.i64.wrap (p2 i * 2) = p2 i * 2 := wi (by omega) (by omega)
    simp [s60_0, e0, e3, e4, h3, hw, hw2]
    exact ⟨n - (i + 1), by omega, i + 1, by omega, rfl, by rw [p2_succ]; omega, by omega⟩
  · have h5 : i = n := by omega
    subst h5
    simp [s60_0, e0, e3, e4]
theorem kb_shl {k k' : IntKind} {a b : Int} : kBin .shl (.int k a) (.int k' b) = if b < 0 then none else some (.int k (k.wrap (a * 2 ^ (min b.toNat k.bits)))) := rfl
theorem kb_shr {k k' : IntKind} {a b : Int} : kBin .shr (.int k a) (.int k' b) = if b < 0 then none else some (.int k (a.fdiv (2 ^ (min b.toNat k.bits)))) := rfl
theorem right_len {l : List Int} (h : rightB l = true) : l.length ≤ 256 := by
  simp only [rightB, Bool.and_eq_true, decide_eq_true_eq] at h; exact h.2
theorem right_all {l : List Int} (h : rightB l = true) (k : Nat) : 0 ≤ at0 l k ∧ at0 l k ≤ 11 := by
  simp only [rightB, Bool.and_eq_true] at h; exact right_at h.1 k
theorem at0_of {l : List Int} {i : Nat} {x : Int} (h : l[i]? = some x) : at0 l i = x := by
  unfold at0; rw [List.getD_eq_getElem?_getD, h]; rfl
theorem shl_part {x : Int} (h0 : 0 ≤ x) (h1 : x ≤ 11) : IntKind.i64.wrap (1 * 2 ^ (min (11 - x).toNat IntKind.i64.bits)) = part x := by
  have e : min (11 - x).toNat IntKind.i64.bits = (11 - x).toNat := by
    have : IntKind.i64.bits = 64 := rfl
    omega
  rw [e, Int.one_mul]
  have h2 : p2 (11 - x).toNat ≤ p2 11 := p2_mono (by omega)
  have h3 : p2 11 = 2048 := by decide
  have h4 := p2_pos (11 - x).toNat
  have : (2 : Int) ^ (11 - x).toNat = p2 (11 - x).toNat := rfl
  rw [this, wi (by omega) (by omega)]; rfl
end
end Go.Proofs.Ytlboioplemlneaa.K
