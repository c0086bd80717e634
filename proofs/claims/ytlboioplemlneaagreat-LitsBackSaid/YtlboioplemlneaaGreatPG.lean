/- Counts that may be, by the program. -/
import Derived.Test.YtlboioplemlneaaGreatPA
import Derived.Test.YtlboioplemlneaaGreatKLowSh3
import Derived.Test.YtlboioplemlneaaGreatKF3
set_option maxRecDepth 100000
set_option maxHeartbeats 2000000
set_option linter.unusedVariables false
set_option linter.unusedSimpArgs false
namespace Go.Proofs.YtlboioplemlneaaGreat.K
open Go Go.Proofs
def okC (x : Int) : Bool := decide (0 ≤ x) && decide (x ≤ 1048576)
def posC (x : Int) : Bool := decide (0 < x)
def cright (l : List Int) : Bool := l.all okC && (l.any posC && decide (l.length ≤ 256))
def AllC (l : List Int) : Prop := l.all okC = true
theorem any_succ {p : Int → Bool} {l : List Int} {i : Nat} {x : Int} (h : l[i]? = some x) : (l.take (i + 1)).any p = ((l.take i).any p || p x) := by
  rw [List.take_add_one, h]; simp
theorem cright_no {l : List Int} {i : Nat} {x : Int} (h : l[i]? = some x) (hp : okC x = false) : cright l = false := by
  simp only [cright, all_no h hp, Bool.false_and]
theorem allc_at {l : List Int} (h : AllC l) {i : Nat} {x : Int} (hx : l[i]? = some x) : 0 ≤ x ∧ x ≤ 1048576 := by
  unfold AllC at h
  rw [List.all_eq_true] at h
  have := h x (List.mem_of_getElem? hx)
  simpa [okC] using this
theorem allc_at0 {l : List Int} (h : AllC l) (i : Nat) : 0 ≤ at0 l i ∧ at0 l i ≤ 1048576 := by
  unfold at0
  rw [List.getD_eq_getElem?_getD]
  cases hx : l[i]? with
  | none => simp
  | some x => exact allc_at h hx
theorem sum_bd {l : List Int} (h : AllC l) (i : Nat) : 0 ≤ sumTo (at0 l) i ∧ sumTo (at0 l) i ≤ 1048576 * i := by
  induction i with
  | zero => simp [sumTo]
  | succ i ih => have := allc_at0 h i; simp only [sumTo]; omega
theorem sum_pos {l : List Int} (h : AllC l) : ∀ i, i ≤ l.length → (0 < sumTo (at0 l) i ↔ (l.take i).any posC = true)
  | 0, _ => by simp [sumTo]
  | i + 1, hi => by
    have ih := sum_pos h i (by omega)
    have hb := sum_bd h i
    obtain ⟨x, hx⟩ : ∃ x, l[i]? = some x := ⟨_, List.getElem?_eq_getElem (by omega)⟩
    have hxb := allc_at h hx
    rw [any_succ hx, Bool.or_eq_true, ← ih]
    simp only [sumTo, at0_of hx, posC, decide_eq_true_eq]
    omega
section
variable {H : Heap} {a : Option Addr} {c : Nat} {l : List Int}
theorem sum_t (hl : Iv H a l) (hall : AllC l) (hlen : l.length ≤ 256) : Wf S 78 [.slice a l.length c] H fun v H' => H' = H ∧ v = .int .i64 (sumTo (at0 l) l.length) := by
  refine w78 rfl rfl _ ?_
  simp [s78]
  refine l78_0 S (fun d e H' => ∃ i : Nat, i ≤ l.length ∧ d = l.length - i ∧ H' = H ∧ e 3 = .int .i64 (sumTo (at0 l) i) ∧ e 6 = .slice a l.length c ∧ e 7 = .int .i64 l.length ∧ e 8 = .int .i64 i) l.length ⟨0, by omega, by omega, rfl, by simp [sumTo], by simp, by simp, by simp⟩ ?_
  rintro d e H' ⟨i, hi, rfl, rfl, e3, e6, e7, e8⟩
  by_cases h3 : i < l.length
  · obtain ⟨b, o, cs, rw, rfl, hg, hc⟩ := hl (by omega)
    obtain ⟨x, hx⟩ : ∃ x, l[i]? = some x := ⟨_, List.getElem?_eq_getElem h3⟩
    have hcx := hc i x hx
    have hxb := allc_at hall hx
    have hb := sum_bd hall i
    have hw : IntKind.i64.wrap ((i : Int) + 1) = (i : Int) + 1 := wi (by omega) (by omega)
    have hw2 : IntKind.i64.wrap (sumTo (at0 l) i + x) = sumTo (at0 l) i + x := wi (by omega) (by omega)
    simp [s78_0, e3, e6, e7, e8, h3, addOff, hg, hcx, hw, hw2]
    exact ⟨l.length - (i + 1), by omega, i + 1, by omega, rfl, by simp [sumTo, at0_of hx], by omega⟩
  · have h5 : i = l.length := by omega
    subst h5
    simp [s78_0, e3, e7, e8]
theorem cRight_t (hl : Iv H a l) (hm : (l.length : Int) ≤ 9223372036854775807) : Wf S 52 [.slice a l.length c] H fun v H' => H' = H ∧ v = .bool (cright l) := by
  refine w52 rfl rfl _ ?_
  by_cases h256 : (256 : Int) < l.length
  · have : cright l = false := by simp only [cright]; rw [decide_eq_false (by omega)]; simp
    simp [s52, h256, this]
  simp [s52, h256]
  refine l52_0 S (fun d e H' => ∃ i : Nat, i ≤ l.length ∧ d = l.length - i ∧ H' = H ∧ e 0 = .slice a l.length c ∧ e 8 = .slice a l.length c ∧ e 9 = .int .i64 l.length ∧ e 10 = .int .i64 i ∧ AllC (l.take i)) l.length ⟨0, by omega, by omega, rfl, by simp, by simp, by simp, by simp, rfl⟩ ?_
  rintro d e H' ⟨i, hi, rfl, rfl, e0, e8, e9, e10, hok⟩
  by_cases h3 : i < l.length
  · obtain ⟨b, o, cs, rw, rfl, hg, hc⟩ := hl (by omega)
    obtain ⟨x, hx⟩ : ∃ x, l[i]? = some x := ⟨_, List.getElem?_eq_getElem h3⟩
    have hcx := hc i x hx
    have hw : IntKind.i64.wrap ((i : Int) + 1) = (i : Int) + 1 := wi (by omega) (by omega)
    by_cases g1 : x < 0
    · simp [s52_0, e8, e9, e10, h3, addOff, hg, hcx, g1]
      exact cright_no hx (by simp [okC]; omega)
    by_cases g2 : 1048576 < x
    · simp [s52_0, e8, e9, e10, h3, addOff, hg, hcx, g1, g2]
      exact cright_no hx (by simp [okC]; omega)
    · simp [s52_0, e8, e9, e10, h3, addOff, hg, hcx, g1, g2, hw]
      refine ⟨l.length - (i + 1), by omega, i + 1, by omega, rfl, e0, by simp, ?_⟩
      unfold AllC at *
      rw [all_succ hx, hok]; simp [okC]; omega
  · have h5 : i = l.length := by omega
    subst h5
    have hall : AllC l := by rw [List.take_length] at hok; exact hok
    simp [s52_0, e0, e9, e10]
    refine (sum_t hl hall (by omega)).mono ?_
    rintro v H2 ⟨rfl, rfl⟩
    have hp := sum_pos hall l.length (Nat.le_refl _)
    rw [List.take_length] at hp
    have hl256 : l.length ≤ 256 := by omega
    have hall' : l.all okC = true := hall
    simp only [cright, hall', decide_eq_true hl256, Bool.true_and, Bool.and_true]
    by_cases hs : 0 < sumTo (at0 l) l.length
    · simp [hs, hp.mp hs]
    · have : l.any posC = false := by rw [← Bool.not_eq_true]; exact fun e => hs (hp.mpr e)
      simp [hs, this]
end
end Go.Proofs.YtlboioplemlneaaGreat.K
/- A heap in an array, plainly: what a step down, or up, keeps; what is on top. -/
set_option maxRecDepth 100000
set_option maxHeartbeats 1000000
set_option linter.unusedVariables false
set_option linter.unusedSimpArgs false
set_option linter.unusedSectionVars false
namespace Go.Proofs.YtlboioplemlneaaGreat.K
open Go
section
variable {α : Type} [Inhabited α] (lt : α → α → Bool)
/-- an order: none is less than itself the other way round, and what is not less goes on -/
structure Ord : Prop where
  asym : ∀ x y, lt x y = true → lt y x = false
  trans : ∀ x y z, lt y x = false → lt z y = false → lt z x = false
theorem Ord.refl {lt : α → α → Bool} (h : Ord lt) (x : α) : lt x x = false := by
  cases hx : lt x x with
  | false => rfl
  | true => rw [h.asym x x hx] at hx; exact hx.symm ▸ rfl
def ix (l : Array α) (k : Nat) : α := (l[k]?).getD default
theorem ix_of {l : Array α} {k : Nat} {x : α} (h : l[k]? = some x) : ix l k = x := by unfold ix; rw [h]; rfl
theorem ix_get {l : Array α} {k : Nat} (h : k < l.size) : l[k]? = some (ix l k) := by
  unfold ix; rw [Array.getElem?_eq_getElem h]; rfl
theorem ix_swap {l : Array α} {i j k : Nat} (hi : i < l.size) (hj : j < l.size) : ix (l.swap i j hi hj) k = if k = i then ix l j else if k = j then ix l i else ix l k := by
  have h1 : l[i]? = some l[i] := Array.getElem?_eq_getElem hi
  have h2 : l[j]? = some l[j] := Array.getElem?_eq_getElem hj
  unfold ix
  rw [Array.getElem?_swap, h1, h2]
  by_cases hki : k = i
  · subst hki
    by_cases hkj : j = k
    · subst hkj; simp
    · simp [hkj]
  · by_cases hkj : k = j
    · subst hkj; simp [hki]
    · simp [hki, hkj, Ne.symm hki, Ne.symm hkj, show ¬ j = k from fun e => hkj e.symm, show ¬ i = k from fun e => hki e.symm]
/-- behind lo, ahead of n: none is less than the one above it -/
def HeapF (l : Array α) (lo n : Nat) : Prop := ∀ k, 0 < k → k < n → lo ≤ (k - 1) / 2 → lt (ix l k) (ix l ((k - 1) / 2)) = false
structure DInv (l : Array α) (lo n i : Nat) : Prop where
  a : ∀ k, 0 < k → k < n → lo ≤ (k - 1) / 2 → (k - 1) / 2 ≠ i → lt (ix l k) (ix l ((k - 1) / 2)) = false
  b : ∀ k, 0 < k → k < n → (k - 1) / 2 = i → 0 < i → lo ≤ (i - 1) / 2 → lt (ix l k) (ix l ((i - 1) / 2)) = false
  c : lo ≤ i
structure UInv (l : Array α) (n j : Nat) : Prop where
  a : ∀ k, 0 < k → k < n → k ≠ j → lt (ix l k) (ix l ((k - 1) / 2)) = false
  b : ∀ k, 0 < k → k < n → (k - 1) / 2 = j → 0 < j → lt (ix l k) (ix l ((j - 1) / 2)) = false
variable {lt}
theorem DInv.none {l : Array α} {lo n i : Nat} (h : DInv lt l lo n i) (hn : n ≤ 2 * i + 1) : HeapF lt l lo n := fun k h0 h1 h2 => h.a k h0 h1 h2 (by omega)
theorem DInv.stop {l : Array α} {lo n i j : Nat} (ho : Ord lt) (h : DInv lt l lo n i) (hmin : ∀ k, 0 < k → k < n → (k - 1) / 2 = i → lt (ix l k) (ix l j) = false) (hj : lt (ix l j) (ix l i) = false) : HeapF lt l lo n := fun k h0 h1 h2 => by
  by_cases e : (k - 1) / 2 = i
  · rw [e]; exact ho.trans _ _ _ hj (hmin k h0 h1 e)
  · exact h.a k h0 h1 h2 e
theorem DInv.step {l : Array α} {lo n i j : Nat} (ho : Ord lt) (h : DInv lt l lo n i) (h0 : 0 < j) (hjn : j < n) (hp : (j - 1) / 2 = i) (hn : n ≤ l.size) (hmin : ∀ k, 0 < k → k < n → (k - 1) / 2 = i → lt (ix l k) (ix l j) = false)
    (hj : lt (ix l j) (ix l i) = true) : DInv lt (l.swap i j (by omega) (by omega)) lo n j := by
  have hij : i < j := by omega
  have hc := h.c
  refine ⟨fun k k0 k1 k2 k3 => ?_, fun k k0 k1 k2 k3 k4 => ?_, by omega⟩
  · rw [ix_swap, ix_swap]
    by_cases e1 : k = i
    · subst e1
      rw [if_pos rfl, if_neg (by omega), if_neg (by omega)]
      exact h.b j h0 hjn hp k0 k2
    · rw [if_neg e1]
      by_cases e2 : (k - 1) / 2 = i
      · rw [if_pos e2]
        by_cases e3 : k = j
        · rw [if_pos e3]; exact ho.asym _ _ hj
        · rw [if_neg e3]; exact hmin k k0 k1 e2
      · rw [if_neg (show ¬ k = j by omega), if_neg e2, if_neg k3]
        exact h.a k k0 k1 k2 e2
  · rw [ix_swap, ix_swap, hp, if_pos rfl, if_neg (by omega), if_neg (by omega)]
    have := h.a k k0 k1 (by omega) (by omega)
    rw [k2] at this
    exact this
theorem UInv.top {l : Array α} {n : Nat} (h : UInv lt l n 0) : HeapF lt l 0 n := fun k h0 h1 _ => h.a k h0 h1 (by omega)
theorem UInv.stop {l : Array α} {n j : Nat} (h : UInv lt l n j) (hj : lt (ix l j) (ix l ((j - 1) / 2)) = false) : HeapF lt l 0 n := fun k h0 h1 _ => by
  by_cases e : k = j
  · rw [e]; exact hj
  · exact h.a k h0 h1 e
theorem UInv.step {l : Array α} {n i j : Nat} (ho : Ord lt) (h : UInv lt l n j) (h0 : 0 < j) (hjn : j < n) (hp : (j - 1) / 2 = i) (hn : n ≤ l.size)
    (hj : lt (ix l j) (ix l i) = true) : UInv lt (l.swap i j (by omega) (by omega)) n i := by
  have hij : i < j := by omega
  refine ⟨fun k k0 k1 k2 => ?_, fun k k0 k1 k2 k3 => ?_⟩
  · rw [ix_swap, ix_swap, if_neg k2]
    by_cases e1 : k = j
    · subst e1
      rw [if_pos rfl, if_pos hp]
      exact ho.asym _ _ hj
    · rw [if_neg e1]
      by_cases e2 : (k - 1) / 2 = i
      · rw [if_pos e2]
        have := h.a k k0 k1 e1
        rw [e2] at this
        exact ho.trans _ _ _ (ho.asym _ _ hj) this
      · rw [if_neg e2]
        by_cases e3 : (k - 1) / 2 = j
        · rw [if_pos e3]
          have := h.b k k0 k1 e3 h0
          rw [hp] at this
          exact this
        · rw [if_neg e3]; exact h.a k k0 k1 e1
  · rw [ix_swap, ix_swap, if_neg (show ¬ k = i by omega), if_neg (show ¬ (i - 1) / 2 = i by omega), if_neg (show ¬ (i - 1) / 2 = j by omega)]
    have hi := h.a i k3 (by omega) (by omega)
    by_cases e1 : k = j
    · rw [if_pos e1]; exact hi
    · rw [if_neg e1]
      have := h.a k k0 k1 e1
      rw [k2] at this
      exact ho.trans _ _ _ hi this
/-- none is less than what is on top -/
theorem HeapF.least {l : Array α} {n : Nat} (ho : Ord lt) (h : HeapF lt l 0 n) : ∀ k, k < n → lt (ix l k) (ix l 0) = false := by
  intro k
  induction k using Nat.strongRecOn with
  | ind k ih =>
    intro hk
    by_cases e : k = 0
    · rw [e]; exact ho.refl _
    · exact ho.trans _ _ _ (ih ((k - 1) / 2) (by omega) (by omega)) (h k (by omega) hk (by omega))
theorem HeapF.dinv {l : Array α} {lo n : Nat} (h : HeapF lt l (lo + 1) n) : DInv lt l lo n lo := ⟨fun k a b c d => h k a b (by omega), fun k a b c d e => by omega, Nat.le_refl _⟩
theorem HeapF.big {l : Array α} {lo n : Nat} (hn : n ≤ 2 * lo + 1) : HeapF lt l lo n := fun k a b c => by omega
/-- the top and the last one changed places: all but the top holds -/
theorem HeapF.cutD {l : Array α} {n : Nat} (h : HeapF lt l 0 (n + 1)) (hn : n < l.size) : DInv lt (l.swap 0 n (by omega) hn) 0 n 0 := ⟨fun k a b c d => by
    rw [ix_swap, ix_swap, if_neg (by omega), if_neg (by omega), if_neg (by omega), if_neg (by omega)]
    exact h k a (by omega) c, fun k a b c d => by omega, Nat.le_refl _⟩
theorem HeapF.pushU {l : Array α} {n : Nat} (h : HeapF lt l 0 n) {x : α} (hn : n = l.size) : UInv lt (l.push x) (n + 1) n := ⟨fun k a b c => by
    have hk : k < l.size := by omega
    have e1 : ∀ m, m < l.size → ix (l.push x) m = ix l m := fun m hm => by unfold ix; rw [Array.getElem?_push, if_neg (by omega)]
    rw [e1 k hk, e1 _ (by omega)]
    exact h k a (by omega) (by omega), fun k a b c => by omega⟩
end
end Go.Proofs.YtlboioplemlneaaGreat.K
/- container/heap over anything that is a heap by its own Len, Less and Swap. -/
set_option maxRecDepth 100000
set_option maxHeartbeats 2000000
set_option linter.unusedVariables false
set_option linter.unusedSimpArgs false
namespace Go.Proofs.YtlboioplemlneaaGreat.K
open Go Go.Proofs
section
variable {α : Type} [Inhabited α]
/-- what stands behind an interface: an array, by Len, Less, Swap -/
structure PQ (lt : α → α → Bool) (a0 : Value) (Q : Heap → Array α → Prop) : Prop where
  len : ∀ H l, Q H l → ∀ K : Kv, K (.int .i64 l.size) H → run S (.inv (.c a0) "Len" []) [] H K
  less : ∀ H l (i j : Nat), Q H l → i < l.size → j < l.size → ∀ K : Kv, (∀ H', Q H' l → K (.bool (lt (ix l i) (ix l j))) H') → run S (.inv (.c a0) "Less" [.c (.int .i64 i), .c (.int .i64 j)]) [] H K
  swap : ∀ H l (i j : Nat) (hi : i < l.size) (hj : j < l.size), Q H l → ∀ K : Kv, (∀ v H', Q H' (l.swap i j hi hj) → K v H') → run S (.inv (.c a0) "Swap" [.c (.int .i64 i), .c (.int .i64 j)]) [] H K
  small : ∀ H l, Q H l → l.size ≤ 1000000
variable {lt : α → α → Bool} {a0 : Value} {Q : Heap → Array α → Prop} {H : Heap} {l : Array α}
/-- the same, in another order; from n on as it was -/
def Same (l l' : Array α) (n : Nat) : Prop := l'.Perm l ∧ ∀ k, n ≤ k → ix l' k = ix l k
theorem Same.refl (l : Array α) (n : Nat) : Same l l n := ⟨Array.Perm.refl _, fun _ _ => rfl⟩
theorem Same.size {l l' : Array α} {n : Nat} (h : Same l l' n) : l'.size = l.size := by
  have := (Array.perm_iff_toList_perm.1 h.1).length_eq
  simpa using this
theorem Same.swap {l l' : Array α} {n i j : Nat} (h : Same l l' n) (hi : i < l'.size) (hj : j < l'.size) (hin : i < n) (hjn : j < n) : Same l (l'.swap i j hi hj) n :=
  ⟨(Array.swap_perm hi hj).trans h.1, fun k hk => by rw [ix_swap, if_neg (by omega), if_neg (by omega)]; exact h.2 k hk⟩
structure DoI (lt : α → α → Bool) (a0 : Value) (Q : Heap → Array α → Prop) (l : Array α) (lo n : Nat) (i0 : Value) (d : Nat) (e : Fe) (H : Heap) (l' : Array α) (i : Nat) : Prop where
  q : Q H l'
  same : Same l l' n
  inv : DInv lt l' lo n i
  h2 : d = n + n - i
  hi : i ≤ n
  e0 : e 0 = a0
  e1 : e 1 = i0
  e2 : e 2 = .int .i64 n
  e7 : e 7 = .int .i64 i
theorem down_t (hq : PQ lt a0 Q) (ho : Ord lt) (h : Q H l) {lo n : Nat} (hn : n ≤ l.size) (hlo : lo ≤ n) (hd : DInv lt l lo n lo) :
    Wf S 91 [a0, .int .i64 lo, .int .i64 n] H fun v H' => ∃ l', Q H' l' ∧ Same l l' n ∧ HeapF lt l' lo n := by
  have hsm := hq.small H l h
  refine w91 rfl rfl _ _ _ ?_
  simp [s91]
  refine l91_0 S (fun d e H' => ∃ l' i, DoI lt a0 Q l lo n (.int .i64 lo) d e H' l' i) (n + n - lo) ⟨l, lo, h, Same.refl _ _, hd, rfl, hlo, by simp, by simp, by simp, by simp⟩ ?_
  rintro d e H1 ⟨l1, i, hq1, hs, hi, rfl, hin, e0, e1, e2, e7⟩
  have hsz := hs.size
  have hlo2 := hi.c
  obtain ⟨j1, hj1⟩ : ∃ j1, j1 = 2 * i + 1 := ⟨_, rfl⟩
  obtain ⟨j2, hj2⟩ : ∃ j2, j2 = 2 * i + 2 := ⟨_, rfl⟩
  obtain ⟨i2, hi2⟩ : ∃ i2, i2 = 2 * i := ⟨_, rfl⟩
  have w1 : IntKind.i64.wrap (2 * (i : Int)) = (i2 : Int) := by rw [wi (by omega) (by omega)]; omega
  have w2 : IntKind.i64.wrap ((i2 : Int) + 1) = (j1 : Int) := by rw [wi (by omega) (by omega)]; omega
  have w3 : IntKind.i64.wrap ((j1 : Int) + 1) = (j2 : Int) := by rw [wi (by omega) (by omega)]; omega
  by_cases h1 : n ≤ j1
  · have h1' : (n : Int) ≤ j1 := by omega
    simp [s91_0, e0, e1, e2, e7, w1, w2, h1, h1']
    exact ⟨l1, hq1, hs, hi.none (by omega)⟩
  have h1' : ¬ (n : Int) ≤ j1 := by omega
  have h1'' : ¬ (j1 : Int) < 0 := by omega
  simp [s91_0, e0, e1, e2, e7, w1, w2, h1, h1', h1'', w3]
  by_cases h2 : j2 < n
  · have h2' : (j2 : Int) < n := by omega
    simp [h2]
    refine hq.less H1 l1 j2 j1 hq1 (by omega) (by omega) _ fun H2 hq2 => ?_
    cases hb : lt (ix l1 j2) (ix l1 j1) with
    | false =>
      simp [e0, e7]
      have hmin : ∀ k, 0 < k → k < n → (k - 1) / 2 = i → lt (ix l1 k) (ix l1 j1) = false := fun k k0 k1 k2 => by
              rcases (by omega : k = j1 ∨ k = j2) with rfl | rfl
              · exact ho.refl _
              · exact hb
      refine hq.less H2 l1 j1 i hq2 (by omega) (by omega) _ fun H3 hq3 => ?_
      cases hb2 : lt (ix l1 j1) (ix l1 i) with
      | false =>
        simp [e1, e7]
        exact ⟨l1, hq3, hs, hi.stop ho hmin hb2⟩
      | true =>
        simp [e0, e7]
        refine hq.swap H3 l1 i j1 (by omega) (by omega) hq3 _ fun v H4 hq4 => ?_
        try simp
        exact ⟨n + n - j1, by omega, _, j1, hq4, hs.swap (by omega) (by omega) (by omega) (by omega), hi.step ho (by omega) (by omega) (by omega) (by omega) hmin hb2, rfl, by omega, by simp [e0], by simp [e1], by simp [e2], by simp⟩
    | true =>
      simp [e0, e7]
      have hmin : ∀ k, 0 < k → k < n → (k - 1) / 2 = i → lt (ix l1 k) (ix l1 j2) = false := fun k k0 k1 k2 => by
              rcases (by omega : k = j1 ∨ k = j2) with rfl | rfl
              · exact ho.asym _ _ hb
              · exact ho.refl _
      refine hq.less H2 l1 j2 i hq2 (by omega) (by omega) _ fun H3 hq3 => ?_
      cases hb2 : lt (ix l1 j2) (ix l1 i) with
      | false =>
        simp [e1, e7]
        exact ⟨l1, hq3, hs, hi.stop ho hmin hb2⟩
      | true =>
        simp [e0, e7]
        refine hq.swap H3 l1 i j2 (by omega) (by omega) hq3 _ fun v H4 hq4 => ?_
        try simp
        exact ⟨n + n - j2, by omega, _, j2, hq4, hs.swap (by omega) (by omega) (by omega) (by omega), hi.step ho (by omega) (by omega) (by omega) (by omega) hmin hb2, rfl, by omega, by simp [e0], by simp [e1], by simp [e2], by simp⟩
  · have h2' : ¬ (j2 : Int) < n := by omega
    simp [h2, e0, e7]
    have hmin : ∀ k, 0 < k → k < n → (k - 1) / 2 = i → lt (ix l1 k) (ix l1 j1) = false := fun k k0 k1 k2 => by
          have : k = j1 := by omega
          subst this
          exact ho.refl _
    refine hq.less H1 l1 j1 i hq1 (by omega) (by omega) _ fun H3 hq3 => ?_
    cases hb2 : lt (ix l1 j1) (ix l1 i) with
    | false =>
      simp [e1, e7]
      exact ⟨l1, hq3, hs, hi.stop ho hmin hb2⟩
    | true =>
      simp [e0, e7]
      refine hq.swap H3 l1 i j1 (by omega) (by omega) hq3 _ fun v H4 hq4 => ?_
      try simp
      exact ⟨n + n - j1, by omega, _, j1, hq4, hs.swap (by omega) (by omega) (by omega) (by omega), hi.step ho (by omega) (by omega) (by omega) (by omega) hmin hb2, rfl, by omega, by simp [e0], by simp [e1], by simp [e2], by simp⟩
structure UpI (lt : α → α → Bool) (a0 : Value) (Q : Heap → Array α → Prop) (l : Array α) (n : Nat) (d : Nat) (e : Fe) (H : Heap) (l' : Array α) (j : Nat) : Prop where
  q : Q H l'
  same : Same l l' n
  inv : UInv lt l' n j
  h2 : d = j
  hj : j < n
  e0 : e 0 = a0
  e1 : e 1 = .int .i64 j
theorem up_t (hq : PQ lt a0 Q) (ho : Ord lt) (h : Q H l) {j : Nat} (hj : j < l.size) (hu : UInv lt l l.size j) :
    Wf S 93 [a0, .int .i64 j] H fun v H' => ∃ l', Q H' l' ∧ Same l l' l.size ∧ HeapF lt l' 0 l.size := by
  have hsm := hq.small H l h
  refine w93 rfl rfl _ _ ?_
  simp [s93]
  refine l93_0 S (fun d e H' => ∃ l' i, UpI lt a0 Q l l.size d e H' l' i) j ⟨l, j, h, Same.refl _ _, hu, rfl, hj, by simp, by simp⟩ ?_
  rintro d e H1 ⟨l1, i, hq1, hs, hi, rfl, hin, e0, e1⟩
  have hsz := hs.size
  by_cases h0 : d = 0
  · subst h0
    have w1 : IntKind.i64.wrap (((0 : Nat) : Int) - 1) = -1 := by decide
    have w2 : IntKind.i64.wrap ((-1 : Int).tdiv 2) = 0 := by decide
    simp [s93_0, e0, e1, w1, w2]
    exact ⟨l1, hq1, hs, hi.top⟩
  · obtain ⟨i, hi0⟩ : ∃ i, i = (d - 1) / 2 := ⟨_, rfl⟩
    obtain ⟨m, hm⟩ : ∃ m, m = d - 1 := ⟨_, rfl⟩
    have w1 : IntKind.i64.wrap ((d : Int) - 1) = (m : Int) := by rw [wi (by omega) (by omega)]; omega
    have w2 : IntKind.i64.wrap ((m : Int).tdiv 2) = (i : Int) := by rw [Int.tdiv_eq_ediv_of_nonneg (by omega), wi (by omega) (by omega)]; omega
    have w2' : IntKind.i64.wrap ((m : Int) / 2) = (i : Int) := by rw [wi (by omega) (by omega)]; omega
    have h1 : ¬ (i : Int) = d := by omega
    have h1' : ¬ i = d := by omega
    simp [s93_0, e0, e1, w1, w2, w2', h1, h1']
    refine hq.less H1 l1 d i hq1 (by omega) (by omega) _ fun H3 hq3 => ?_
    cases hb2 : lt (ix l1 d) (ix l1 i) with
    | false =>
      simp [e1]
      exact ⟨l1, hq3, hs, hi.stop (hi0 ▸ hb2)⟩
    | true =>
      simp [e0, e1]
      refine hq.swap H3 l1 i d (by omega) (by omega) hq3 _ fun v H4 hq4 => ?_
      try simp
      exact ⟨i, by omega, _, i, hq4, hs.swap (by omega) (by omega) (by omega) (by omega), hi.step ho (by omega) (by omega) hi0.symm (by omega) hb2, rfl, by omega, by simp [e0], by simp⟩
structure InI (lt : α → α → Bool) (a0 : Value) (Q : Heap → Array α → Prop) (l : Array α) (d : Nat) (e : Fe) (H : Heap) (l' : Array α) : Prop where
  q : Q H l'
  same : Same l l' l.size
  inv : HeapF lt l' d l.size
  hd : d ≤ l.size
  e0 : e 0 = a0
  e2 : e 2 = .int .i64 l.size
  e3 : e 3 = .int .i64 ((d : Int) - 1)
theorem Init_t (hq : PQ lt a0 Q) (ho : Ord lt) (h : Q H l) :
    Wf S 79 [a0] H fun v H' => ∃ l', Q H' l' ∧ l'.Perm l ∧ HeapF lt l' 0 l.size := by
  have hsm := hq.small H l h
  refine w79 rfl rfl _ ?_
  simp [s79]
  refine hq.len H l h _ ?_
  have w1 : ((l.size : Int)).tdiv 2 = ((l.size / 2 : Nat) : Int) := by rw [Int.tdiv_eq_ediv_of_nonneg (by omega)]; omega
  obtain ⟨m, hm⟩ : ∃ m, m = l.size / 2 := ⟨_, rfl⟩
  rw [← hm] at w1
  have w1' : ((l.size : Int)) / 2 = (m : Int) := by omega
  have w2 : IntKind.i64.wrap (m : Int) = m := wi (by omega) (by omega)
  have w3 : IntKind.i64.wrap ((m : Int) - 1) = (m : Int) - 1 := wi (by omega) (by omega)
  simp [w1, w1', w2, w3]
  refine l79_0 S (fun d e H' => ∃ l', InI lt a0 Q l d e H' l') m ⟨l, h, Same.refl _ _, HeapF.big (by omega), by omega, by simp, by simp, by simp⟩ ?_
  rintro d e H1 ⟨l1, hq1, hs, hi, hd, e0, e2, e3⟩
  have hsz := hs.size
  cases d with
  | zero =>
    simp [s79_0, e0, e2, e3]
    exact ⟨l1, hq1, hs.1, hi⟩
  | succ d =>
    have h1 : (0 : Int) ≤ ((d + 1 : Nat) : Int) - 1 := by omega
    have h2 : ((d + 1 : Nat) : Int) - 1 = (d : Int) := by omega
    have w4 : IntKind.i64.wrap ((d : Int) - 1) = (d : Int) - 1 := wi (by omega) (by omega)
    rw [h2] at e3
    simp [s79_0, e0, e2, e3]
    refine (down_t hq ho hq1 (lo := d) (n := l.size) (by omega) (by omega) hi.dinv).mono ?_
    rintro v H2 ⟨l2, hq2, hs2, hf⟩
    simp [e3, w4]
    exact ⟨d, by omega, l2, hq2, ⟨hs2.1.trans hs.1, fun k hk => (hs2.2 k hk).trans (hs.2 k hk)⟩, hf, by omega, by simp [e0], by simp [e2], by simp⟩
end
end Go.Proofs.YtlboioplemlneaaGreat.K
/- container/heap: what comes out is least; what is put in. -/
set_option maxRecDepth 100000
set_option maxHeartbeats 2000000
set_option linter.unusedVariables false
set_option linter.unusedSimpArgs false
set_option linter.unusedSectionVars false
namespace Go.Proofs.YtlboioplemlneaaGreat.K
open Go Go.Proofs
section
variable {α : Type} [Inhabited α]
/-- by Push and Pop, too -/
structure PQ2 (lt : α → α → Bool) (a0 : Value) (Q : Heap → Array α → Prop) (el : α → Value) (El : Heap → α → Prop) : Prop where
  pq : PQ lt a0 Q
  push : ∀ H l x, Q H l → El H x → l.size < 1000000 → ∀ K : Kv, (∀ v H', Q H' (l.push x) → K v H') → run S (.inv (.c a0) "Push" [.c (el x)]) [] H K
  pop : ∀ H l x, Q H (l.push x) → ∀ K : Kv, (∀ H', Q H' l → El H' x → K (el x) H') → run S (.inv (.c a0) "Pop" []) [] H K
variable {lt : α → α → Bool} {a0 : Value} {Q : Heap → Array α → Prop} {el : α → Value} {El : Heap → α → Prop} {H : Heap} {l : Array α}
theorem ix_push_lt {l : Array α} {x : α} {k : Nat} (h : k < l.size) : ix (l.push x) k = ix l k := by unfold ix; rw [Array.getElem?_push, if_neg (by omega)]
theorem ix_push_eq {l : Array α} {x : α} : ix (l.push x) l.size = x := by unfold ix; rw [Array.getElem?_push, if_pos rfl]; rfl
theorem ix_mem {l : Array α} {y : α} (h : y ∈ l) : ∃ k, k < l.size ∧ ix l k = y := by
  obtain ⟨k, hk, e⟩ := Array.mem_iff_getElem.1 h
  exact ⟨k, hk, ix_of (by rw [Array.getElem?_eq_getElem hk, e])⟩
theorem Pop_t (hq : PQ2 lt a0 Q el El) (ho : Ord lt) (h : Q H l) (h0 : 0 < l.size) (hf : HeapF lt l 0 l.size) :
    Wf S 92 [a0] H fun v H' => ∃ x l', v = el x ∧ El H' x ∧ Q H' l' ∧ (l'.push x).Perm l ∧ HeapF lt l' 0 l'.size ∧ ∀ y ∈ l', lt y x = false := by
  have hsm := hq.pq.small H l h
  refine w92 rfl rfl _ ?_
  simp [s92]
  refine hq.pq.len H l h _ ?_
  obtain ⟨n, hn⟩ : ∃ n, l.size = n + 1 := ⟨l.size - 1, by omega⟩
  have w1 : IntKind.i64.wrap ((l.size : Int) - 1) = (n : Int) := by rw [wi (by omega) (by omega)]; omega
  simp [w1]
  rw [hn] at hf
  refine hq.pq.swap H l 0 n (by omega) (by omega) h _ fun v H1 h1 => ?_
  have hd := hf.cutD (by omega : n < l.size)
  refine (down_t hq.pq ho h1 (lo := 0) (n := n) (by rw [Array.size_swap]; omega) (by omega) hd).mono ?_
  rintro v H2 ⟨l2, hq2, hs, hf2⟩
  have hsz := hs.size
  rw [Array.size_swap] at hsz
  obtain ⟨l3, x, rfl⟩ := Array.exists_push_of_size_eq_add_one (by omega : l2.size = n + 1)
  have hn3 : l3.size = n := by rw [Array.size_push] at hsz; omega
  have hx : x = ix l 0 := by
    have := hs.2 n (Nat.le_refl _)
    have e1 : ix (l3.push x) n = x := by rw [← hn3]; exact ix_push_eq
    rw [e1, ix_swap] at this
    rw [this]
    by_cases e : n = 0
    · rw [if_pos e, e]
    · rw [if_neg e, if_pos rfl]
  have hp : (l3.push x).Perm l := hs.1.trans (Array.swap_perm _ _)
  refine hq.pop H2 l3 x hq2 _ fun H3 hq3 hel => ?_
  refine ⟨x, rfl, hel, l3, hq3, hp, fun k k0 k1 k2 => ?_, fun y hy => ?_⟩
  · have := hf2 k k0 (by omega) k2
    rw [ix_push_lt k1, ix_push_lt (by omega)] at this
    exact this
  · have hy : y ∈ l := (Array.Perm.mem_iff hp).1 (Array.mem_push.2 (.inl hy))
    obtain ⟨k, hk, rfl⟩ := ix_mem hy
    rw [hx]
    exact hf.least ho k (by omega)
theorem Push_t (hq : PQ2 lt a0 Q el El) (ho : Ord lt) (h : Q H l) (hf : HeapF lt l 0 l.size) {x : α} (hx : El H x) (hsz : l.size < 1000000) :
    Wf S 82 [a0, el x] H fun v H' => ∃ l', Q H' l' ∧ l'.Perm (l.push x) ∧ HeapF lt l' 0 l'.size := by
  refine w82 rfl rfl _ _ ?_
  simp [s82]
  refine hq.push H l x h hx hsz _ fun v H1 h1 => ?_
  refine hq.pq.len H1 _ h1 _ ?_
  have w1 : IntKind.i64.wrap (((l.push x).size : Int) - 1) = (l.size : Int) := by rw [Array.size_push, wi (by omega) (by omega)]; omega
  have w1' : IntKind.i64.wrap ((l.size : Int) + 1 - 1) = (l.size : Int) := by rw [wi (by omega) (by omega)]; omega
  have w2 : IntKind.i64.wrap (l.size : Int) = (l.size : Int) := wi (by omega) (by omega)
  simp [w1', w2]
  have hu := hf.pushU (x := x) rfl
  rw [show l.size + 1 = (l.push x).size from (Array.size_push ..).symm] at hu
  refine (up_t hq.pq ho h1 (j := l.size) (by rw [Array.size_push]; omega) hu).mono ?_
  rintro v H2 ⟨l2, hq2, hs, hf2⟩
  exact ⟨l2, hq2, hs.1, hs.size ▸ hf2⟩
end
end Go.Proofs.YtlboioplemlneaaGreat.K
/- A tree of codes as it lies in memory; which of two nodes is the lighter one. -/
set_option maxRecDepth 100000
set_option maxHeartbeats 2000000
set_option linter.unusedVariables false
set_option linter.unusedSimpArgs false
namespace Go.Proofs.YtlboioplemlneaaGreat.K
open Go Go.Proofs
inductive T where
  | leaf (w s : Nat)
  | two (o : Nat) (l r : T)
  deriving Inhabited
def T.w : T → Nat
  | .leaf w _ => w
  | .two _ l r => l.w + r.w
def T.o : T → Nat
  | .leaf _ s => s
  | .two o _ _ => o
/-- a node that lies at b -/
def Nd (H : Heap) (b : Nat) : T → Prop
  | .leaf w s => H.get b = .cells [.int .i64 w, .int .i64 s, .int .i64 s, .pointer none, .pointer none] 86 true
  | .two o l r => ∃ bl br, H.get b = .cells [.int .i64 ((l.w + r.w : Nat) : Int), .int .i64 o, .int .i64 (-1), .pointer (some ⟨bl, 0, none⟩), .pointer (some ⟨br, 0, none⟩)] 86 true ∧ Nd H bl l ∧ Nd H br r
theorem Nd.get {H : Heap} {b : Nat} {t : T} (h : Nd H b t) : ∃ s l r, H.get b = .cells [.int .i64 t.w, .int .i64 t.o, s, l, r] 86 true := by
  cases t with
  | leaf w s => exact ⟨_, _, _, h⟩
  | two o l r => obtain ⟨bl, br, h1, _⟩ := h; exact ⟨_, _, _, h1⟩
/-- all nodes stand as they stood -/
def KN (H H' : Heap) : Prop := ∀ k cs, H.get k = .cells cs 86 true → H'.get k = H.get k
theorem KN.refl (H : Heap) : KN H H := fun _ _ _ => rfl
theorem KN.trans {A B C : Heap} (h : KN A B) (h' : KN B C) : KN A C := fun k cs hk => (h' k cs ((h k cs hk).trans hk)).trans (h k cs hk)
theorem KN.kp {H H' : Heap} (h : Kp H.next H H') : KN H H' := fun k cs hk => h.2 k (lt_cells hk)
theorem KN.put {H : Heap} {q : Nat} {cs0 : List Value} {t0 : TypeId} {rw0 : Bool} {x : Blk} (hq : H.get q = .cells cs0 t0 rw0) (ht : t0 ≠ 86) : KN H (H.put q x) := fun k cs hk => by
  refine get_put_ne ?_
  rintro rfl
  rw [hq] at hk
  cases hk
  exact ht rfl
theorem Nd.kn {H H' : Heap} (hk : KN H H') : ∀ {t : T} {b : Nat}, Nd H b t → Nd H' b t
  | .leaf w s, b, h => (hk b _ h).trans h
  | .two o l r, b, h => by
    obtain ⟨bl, br, h1, h2, h3⟩ := h
    exact ⟨bl, br, (hk b _ h1).trans h1, Nd.kn hk h2, Nd.kn hk h3⟩
/-- a node and where it lies -/
structure Nt where
  b : Nat
  t : T
  deriving Inhabited
def ltN (x y : Nt) : Bool := decide (x.t.w < y.t.w) || (decide (x.t.w = y.t.w) && decide (x.t.o < y.t.o))
theorem ltN_ord : Ord ltN := ⟨fun x y h => by
    simp only [ltN, Bool.or_eq_true, Bool.and_eq_true, decide_eq_true_eq, Bool.or_eq_false_iff, Bool.and_eq_false_iff, decide_eq_false_iff_not] at *
    omega, fun x y z h1 h2 => by
    simp only [ltN, Bool.or_eq_true, Bool.and_eq_true, decide_eq_true_eq, Bool.or_eq_false_iff, Bool.and_eq_false_iff, decide_eq_false_iff_not] at *
    omega⟩
theorem ltN_w {x y : Nt} (h : ltN y x = false) : x.t.w ≤ y.t.w := by
  simp only [ltN, Bool.or_eq_false_iff, decide_eq_false_iff_not] at h
  omega
def cmpI (x y : Int) : Int := if x < y then -1 else if y < x then 1 else 0
section
variable {H : Heap}
theorem isNaN_t (x : Int) : Wf S 96 [.int .i64 x] H fun v H' => H' = H ∧ v = .bool false := by
  refine w96 rfl rfl _ ?_
  simp [s96]
theorem Compare_t (x y : Int) : Wf S 86 [.int .i64 x, .int .i64 y] H fun v H' => H' = H ∧ v = .int .i64 (cmpI x y) := by
  refine w86 rfl rfl _ _ ?_
  simp [s86]
  refine (isNaN_t x).mono ?_
  rintro v H1 ⟨rfl, rfl⟩
  try simp
  refine (isNaN_t y).mono ?_
  rintro v H1 ⟨rfl, rfl⟩
  by_cases h1 : x < y
  · simp [h1, cmpI]
  · by_cases h2 : y < x
    · simp [h1, h2, cmpI]
    · simp [h1, h2, cmpI]
theorem Or_t {b : Nat} {x y : Int} (h : H.get b = .cells [.int .i64 x, .int .i64 y] 3 true) : Wf S 122 [.slice (some ⟨b, 0, none⟩) 2 2] H fun v H' => H' = H ∧ v = .int .i64 (if x = 0 then y else x) := by
  have w1 : IntKind.i64.wrap 1 = 1 := by decide
  have w2 : IntKind.i64.wrap 2 = 2 := by decide
  refine w122 rfl rfl _ ?_
  simp [s122]
  refine u122_0 S ?_
  by_cases hx : x = 0
  · subst hx
    simp [s122_0, addOff, h, w1, w2]
    refine u122_0 S ?_
    by_cases hy : y = 0
    · subst hy
      simp [s122_0, addOff, h, w1, w2]
      refine u122_0 S ?_
      simp [s122_0, addOff, h, w1, w2]
    · simp [s122_0, addOff, h, hy, w1, w2]
  · simp [s122_0, addOff, h, hx]
end
end Go.Proofs.YtlboioplemlneaaGreat.K
/- The program's heap of nodes is a heap. -/
set_option maxRecDepth 100000
set_option maxHeartbeats 2000000
set_option linter.unusedVariables false
set_option linter.unusedSimpArgs false
namespace Go.Proofs.YtlboioplemlneaaGreat.K
open Go Go.Proofs
theorem inv_ld {S : Sys} {H : Heap} {K : Kv} {t : TypeId} {v x : Value} {name : String} {f : FuncId} {args : List Opd} (hM : S.M t name = some (f, .ld)) (hx : kLd H v = some x) : run S (.inv (.c (.iface t v)) name args) [] H K = Wf S f (x :: args.map (Env.ev [])) H K := by
  simp only [run, Env.ev, hM, recvOf, hx]
theorem inv_as {S : Sys} {H : Heap} {K : Kv} {t : TypeId} {v : Value} {name : String} {f : FuncId} {args : List Opd} (hM : S.M t name = some (f, .as)) : run S (.inv (.c (.iface t v)) name args) [] H K = Wf S f (v :: args.map (Env.ev [])) H K := by
  simp only [run, Env.ev, hM, recvOf]
theorem kop_ld {H : Heap} {v : Value} : kop (.ld (.c v)) [] H = (kLd H v).map (·, H) := rfl
def ptrN (x : Nt) : Value := .pointer (some ⟨x.b, 0, none⟩)
/-- the nodes that lie in the heap at p -/
structure Qn (H0 HB : Heap) (p : Nat) (H : Heap) (l : Array Nt) : Prop where
  kp : Kp H0.next H0 H
  hp : H0.next ≤ p
  sm : l.size ≤ 1000000
  v : ∃ b c cs, H0.next ≤ b ∧ H.get p = .cells [.slice (some ⟨b, 0, none⟩) l.size c] 113 true ∧ (c = capx ∨ (c = 0 ∧ l.size = 0)) ∧ H.get b = .cells cs 82 true ∧ l.size ≤ cs.length ∧ ∀ (i : Nat) x, l[i]? = some x → cs[i]? = some (ptrN x)
  nd : ∀ x ∈ l, Nd H x.b x.t
  kn : KN HB H
def a0N (p : Nat) : Value := .iface 111 (.pointer (some ⟨p, 0, none⟩))
def elN (x : Nt) : Value := .iface 82 (ptrN x)
def ElN (H : Heap) (x : Nt) : Prop := Nd H x.b x.t
section
variable {H0 HB H : Heap} {p : Nat} {l : Array Nt}
theorem Qn.step {H' : Heap} (h : Qn H0 HB p H l) (hk : Kp H.next H H') : Qn H0 HB p H' l := by
  obtain ⟨h1, h2, h3, ⟨b, c, cs, q1, q2, q3, q4, q5, q6⟩, h5, h6⟩ := h
  exact ⟨h1.trans (hk.mono h1.1), h2, h3, ⟨b, c, cs, q1, (hk.2 p (lt_cells q2)).trans q2, q3, (hk.2 b (lt_cells q4)).trans q4, q5, q6⟩, fun x hx => (h5 x hx).kn (KN.kp hk), h6.trans (KN.kp hk)⟩
theorem Qn.node {i : Nat} (h : Qn H0 HB p H l) (hi : i < l.size) : Nd H (ix l i).b (ix l i).t := h.nd _ (by
  have := Array.mem_of_getElem? (ix_get hi)
  exact this)
/-- from here on all nodes are kept -/
theorem Qn.re (h : Qn H0 HB p H l) : Qn H0 H p H l := ⟨h.kp, h.hp, h.sm, h.v, h.nd, KN.refl H⟩
theorem Qn.of {HA : Heap} (h : Qn H0 HB p H l) (hk : KN HA HB) : Qn H0 HA p H l := ⟨h.kp, h.hp, h.sm, h.v, h.nd, hk.trans h.kn⟩
theorem len_q (h : Qn H0 HB p H l) (K : Kv) (hK : K (.int .i64 l.size) H) : run S (.inv (.c (a0N p)) "Len" []) [] H K := by
  obtain ⟨b, c, cs, q1, q2, q3, q4, q5, q6⟩ := h.v
  unfold a0N
  rw [inv_ld (f := 80) (x := .slice (some ⟨b, 0, none⟩) l.size c) rfl (by simp [q2])]
  refine w80 rfl rfl _ ?_
  simpa [s80] using hK
theorem less_q {i j : Nat} (h : Qn H0 HB p H l) (hi : i < l.size) (hj : j < l.size) (K : Kv) (hK : ∀ H', Qn H0 HB p H' l → K (.bool (ltN (ix l i) (ix l j))) H') : run S (.inv (.c (a0N p)) "Less" [.c (.int .i64 i), .c (.int .i64 j)]) [] H K := by
  obtain ⟨b, c, cs, q1, q2, q3, q4, q5, q6⟩ := h.v
  unfold a0N
  rw [inv_ld (f := 118) (x := .slice (some ⟨b, 0, none⟩) l.size c) rfl (by simp [q2])]
  have ci := q6 i _ (ix_get hi)
  have cj := q6 j _ (ix_get hj)
  obtain ⟨_, _, _, ni⟩ := (h.node hi).get
  obtain ⟨_, _, _, nj⟩ := (h.node hj).get
  generalize ix l i = x at *
  generalize ix l j = y at *
  refine w118 rfl rfl _ _ _ ?_
  simp [s118, hi, hj, addOff, q4, ci, cj, ni, nj, ptrN, Env.ev]
  refine (Compare_t _ _).mono ?_
  rintro v H1 ⟨rfl, rfl⟩
  simp [addOff, q4, ci, cj, ni, nj, ptrN, ck, veq, veq1, kop_ld]
  refine (Compare_t _ _).mono ?_
  rintro v H1 ⟨rfl, rfl⟩
  simp [kFill, evPs, isTup, cellsL, wr]
  refine (Or_t get_last).mono ?_
  rintro v H1 ⟨rfl, rfl⟩
  have hb : kBin .lss (.int .i64 (if cmpI x.t.w y.t.w = 0 then cmpI x.t.o y.t.o else cmpI x.t.w y.t.w)) (.int .i64 0) = some (.bool (ltN x y)) := by
    show some (Value.bool (decide _)) = _
    congr 2
    rw [Bool.eq_iff_iff, decide_eq_true_eq]
    simp only [ltN, cmpI, Bool.or_eq_true, Bool.and_eq_true, decide_eq_true_eq]
    split <;> split <;> omega
  have := hK _ (h.step (Kp.push (b := .cells [.int .i64 (cmpI x.t.w y.t.w), .int .i64 (cmpI x.t.o y.t.o)] 3 true) (Nat.le_refl _)))
  rw [hb]
  simp
  exact this
theorem swap_q {i j : Nat} (hi : i < l.size) (hj : j < l.size) (h : Qn H0 HB p H l) (K : Kv) (hK : ∀ v H', Qn H0 HB p H' (l.swap i j hi hj) → K v H') : run S (.inv (.c (a0N p)) "Swap" [.c (.int .i64 i), .c (.int .i64 j)]) [] H K := by
  obtain ⟨b, c, cs, q1, q2, q3, q4, q5, q6⟩ := h.v
  unfold a0N
  rw [inv_ld (f := 121) (x := .slice (some ⟨b, 0, none⟩) l.size c) rfl (by simp [q2])]
  have ci := q6 i _ (ix_get hi)
  have cj := q6 j _ (ix_get hj)
  have hic : i < cs.length := by omega
  have hjc : j < cs.length := by omega
  have hlt := lt_cells q4
  have s1 : kSt H (.pointer (some ⟨b, i, none⟩)) (ptrN (ix l j)) = some (H.put b (.cells (cs.set i (ptrN (ix l j))) 82 true)) := by
    simp [kSt, q4, hic, oneC, ptrN]
  have s2 : kSt (H.put b (.cells (cs.set i (ptrN (ix l j))) 82 true)) (.pointer (some ⟨b, j, none⟩)) (ptrN (ix l i)) = some (H.put b (.cells ((cs.set i (ptrN (ix l j))).set j (ptrN (ix l i))) 82 true)) := by
    simp [kSt, get_put_eq hlt, hjc, oneC, ptrN, put_put]
  have hn : Qn H0 HB p (H.put b (.cells ((cs.set i (ptrN (ix l j))).set j (ptrN (ix l i))) 82 true)) (l.swap i j hi hj) := by
    have hpb : p ≠ b := by
      rintro rfl
      rw [q2] at q4; simp at q4
    refine ⟨⟨by rw [next_put]; exact h.kp.1, fun k hk => (get_put_ne (by omega)).trans (h.kp.2 k hk)⟩, h.hp, by rw [Array.size_swap]; exact h.sm, ⟨b, c, _, q1, by rw [Array.size_swap, get_put_ne hpb]; exact q2, by rw [Array.size_swap]; exact q3, get_put_eq hlt, by rw [Array.size_swap]; simpa using q5, fun k x hx => ?_⟩, fun x hx => ?_, h.kn.trans (KN.put q4 (by decide))⟩
    · rw [Array.getElem?_swap] at hx
      have e1 : l[i]? = some l[i] := Array.getElem?_eq_getElem hi
      have e2 : l[j]? = some l[j] := Array.getElem?_eq_getElem hj
      have f1 : ix l i = l[i] := ix_of e1
      have f2 : ix l j = l[j] := ix_of e2
      rw [List.getElem?_set, List.getElem?_set, List.length_set, f1, f2]
      by_cases k1 : j = k
      · subst k1
        rw [if_pos rfl] at hx
        cases hx
        rw [if_pos rfl, if_pos hjc]
      · rw [if_neg k1] at hx
        rw [if_neg k1]
        by_cases k2 : i = k
        · subst k2
          rw [if_pos rfl] at hx
          cases hx
          rw [if_pos rfl, if_pos hic]
        · rw [if_neg k2] at hx
          rw [if_neg k2]
          exact q6 k x hx
    · have : x ∈ l := (Array.Perm.mem_iff (Array.swap_perm hi hj)).1 hx
      exact (h.nd x this).kn (KN.put q4 (by decide))
  refine w121 rfl rfl _ _ _ ?_
  simp [s121, hi, hj, addOff, q4, ci, cj, Env.ev, s1]
  rw [s2]
  simp
  exact hK _ _ hn
theorem pop_q {x : Nt} (h : Qn H0 HB p H (l.push x)) (K : Kv) (hK : ∀ H', Qn H0 HB p H' l → ElN H' x → K (elN x) H') : run S (.inv (.c (a0N p)) "Pop" []) [] H K := by
  obtain ⟨b, c, cs, q1, q2, q3, q4, q5, q6⟩ := h.v
  rw [Array.size_push] at q2 q3 q5
  have hc : c = capx := by omega
  subst hc
  have hsm := h.sm
  rw [Array.size_push] at hsm
  unfold a0N
  rw [inv_as (f := 119) rfl]
  have cx := q6 l.size x (by rw [Array.getElem?_push, if_pos rfl])
  have hlt := lt_cells q2
  have w1 : IntKind.i64.wrap (((l.size + 1 : Nat) : Int) - 1) = (l.size : Int) := by rw [wi (by omega) (by omega)]; omega
  have w1' : IntKind.i64.wrap ((l.size : Int) + 1 - 1) = (l.size : Int) := by rw [wi (by omega) (by omega)]; omega
  have hsl : ∀ {K : Kv}, run S (.slc 82 1 (.c (.slice (some ⟨b, 0, none⟩) (l.size + 1) capx)) none (some (.c (.int .i64 (l.size : Int))))) [] H K = K (.slice (some ⟨b, 0, none⟩) l.size capx) H := fun {K} => by
    rw [run_slc0 (.inl rfl) q4 (by omega)]; rfl
  have hpb : b ≠ p := by
    rintro rfl
    rw [q2] at q4; simp at q4
  have hn : Qn H0 HB p (H.put p (.cells [.slice (some ⟨b, 0, none⟩) l.size capx] 113 true)) l := by
    have hp := h.hp
    refine ⟨⟨by rw [next_put]; exact h.kp.1, fun k hk => (get_put_ne (by omega)).trans (h.kp.2 k hk)⟩, h.hp, by omega, ⟨b, capx, cs, q1, get_put_eq hlt, .inl rfl, (get_put_ne hpb).trans q4, by omega, fun k y hy => q6 k y ?_⟩, fun y hy => ?_, h.kn.trans (KN.put q2 (by decide))⟩
    · have := (Array.getElem?_eq_some_iff.1 hy).1
      rw [Array.getElem?_push, if_neg (by omega)]; exact hy
    · exact (h.nd y (Array.mem_push.2 (.inl hy))).kn (KN.put q2 (by decide))
  have hx : ElN (H.put p (.cells [.slice (some ⟨b, 0, none⟩) l.size capx] 113 true)) x := (h.nd x (Array.mem_push.2 (.inr rfl))).kn (KN.put q2 (by decide))
  have := hK _ hn hx
  refine w119 rfl rfl _ ?_
  have w2 : IntKind.i64.wrap (l.size : Int) = (l.size : Int) := wi (by omega) (by omega)
  simp [s119, q2, q4, addOff, w1, w1', w2, cx, hsl, kSt, oneC]
  exact ⟨by omega, this⟩
theorem app_q {x : Nt} (h : Qn H0 HB p H l) (hx : ElN H x) (hs : l.size < 1000000) : ∃ b c v' H2 H3, H.get p = .cells [.slice (some ⟨b, 0, none⟩) l.size c] 113 true ∧ kRow (H.push (.cells [ptrN x] 82 true)) 82 1 1 (some ⟨H.next, 0, none⟩) = some [ptrN x] ∧
    (H.push (.cells [ptrN x] 82 true)).get p = .cells [.slice (some ⟨b, 0, none⟩) l.size c] 113 true ∧
    kApp (H.push (.cells [ptrN x] 82 true)) 82 1 8 (.slice (some ⟨b, 0, none⟩) l.size c) 1 [ptrN x] = some (v', H2) ∧ kSt H2 (.pointer (some ⟨p, 0, none⟩)) v' = some H3 ∧ Qn H0 HB p H3 (l.push x) := by
  obtain ⟨b, c, cs, q1, q2, q3, q4, q5, q6⟩ := h.v
  have hp := h.hp
  have hkp := h.kp.1
  have hltp := lt_cells q2
  have hltb := lt_cells q4
  have hpb : p ≠ b := by
    rintro rfl
    rw [q2] at q4; simp at q4
  obtain ⟨H1, hH1⟩ : ∃ H1, H1 = H.push (.cells [ptrN x] 82 true) := ⟨_, rfl⟩
  have hk1 : Kp H.next H H1 := hH1 ▸ Kp.push (Nat.le_refl _)
  have g1 : H1.get b = .cells cs 82 true := (hk1.2 b hltb).trans q4
  have hrd : rd cs 0 l.size = some (cs.take l.size) := by
    unfold rd; rw [if_pos (by omega), List.drop_zero]
  -- the array behind
  have hap : ∃ H2, kApp H1 82 1 8 (.slice (some ⟨b, 0, none⟩) l.size c) 1 [ptrN x] = some (.slice (some ⟨H1.next, 0, none⟩) (l.size + 1) capx, H2) ∧ H2.next = H1.next + 1 ∧ H2.get H1.next = .cells (cs.take l.size ++ [ptrN x]) 82 true ∧ (∀ k, k < H1.next → k ≠ b → H2.get k = H1.get k) := by
    have hr : (l.size + 1) * 8 ≤ roomMax ∧ l.size + 1 ≤ roomMax := by unfold roomMax; omega
    rcases q3 with rfl | ⟨rfl, h0⟩
    · refine ⟨(H1.put b .dead).push (.cells (cs.take l.size ++ [ptrN x]) 82 true), ?_, by simp [next_put], ?_, fun k h1 h2 => ?_⟩
      · simp only [kApp, g1, hr, and_self, if_true, Nat.mul_one, hrd, Option.map_some, Nat.one_ne_zero, if_false]
      · have := get_last (H := H1.put b .dead) (b := .cells (cs.take l.size ++ [ptrN x]) 82 true)
        rw [next_put] at this; exact this
      · rw [get_old (by rw [next_put]; exact h1), get_put_ne h2]
    · have hx0 : ¬ (0 : Nat) = capx := by decide
      have hx1 : ¬ l.size + 1 ≤ 0 := by omega
      refine ⟨H1.push (.cells (cs.take l.size ++ [ptrN x]) 82 true), ?_, by simp, get_last, fun k h1 h2 => get_old h1⟩
      simp only [kApp, g1, hr, and_self, if_true, Nat.mul_one, hrd, Option.map_some, hx0, hx1, if_false]
  obtain ⟨H2, ha, hn2, hg2, hold⟩ := hap
  have hk12 := hk1.1
  have hgp : H2.get p = .cells [.slice (some ⟨b, 0, none⟩) l.size c] 113 true := by
    rw [hold p (by omega) hpb, hk1.2 p hltp]; exact q2
  have hkn : KN H (H2.put p (.cells [.slice (some ⟨H1.next, 0, none⟩) (l.size + 1) capx] 113 true)) := by
    refine ((KN.kp hk1).trans (B := H1) (C := H2) fun k cs' hk' => ?_).trans (KN.put hgp (by decide))
    refine hold k (lt_cells hk') ?_
    rintro rfl
    rw [g1] at hk'; simp at hk'
  have hn : Qn H0 HB p (H2.put p (.cells [.slice (some ⟨H1.next, 0, none⟩) (l.size + 1) capx] 113 true)) (l.push x) := by
    refine ⟨⟨by rw [next_put]; omega, fun k hk => ?_⟩, hp, by rw [Array.size_push]; omega, ⟨H1.next, capx, _, by omega, by rw [Array.size_push]; exact get_put_eq (by omega), .inl rfl, (get_put_ne (by omega)).trans hg2, by rw [Array.size_push]; simp; omega, fun k y hy => ?_⟩, fun y hy => ?_, h.kn.trans hkn⟩
    · rw [get_put_ne (by omega), hold k (by omega) (by omega), hk1.2 k (by omega)]; exact h.kp.2 k hk
    · rw [Array.getElem?_push] at hy
      have hl : (cs.take l.size).length = l.size := by simp; omega
      by_cases hks : k = l.size
      · subst hks
        rw [if_pos rfl] at hy
        cases hy
        rw [List.getElem?_append_right (by omega), hl]; simp
      · rw [if_neg hks] at hy
        have hkl := (Array.getElem?_eq_some_iff.1 hy).1
        rw [List.getElem?_append_left (by omega), List.getElem?_take, if_pos hkl]
        exact q6 k y hy
    · rcases Array.mem_push.1 hy with hy | rfl
      · exact (h.nd y hy).kn hkn
      · exact Nd.kn hkn hx
  have hrow : kRow H1 82 1 1 (some ⟨H.next, 0, none⟩) = some [ptrN x] := by
    rw [hH1]; simp [kRow, rd]
  have hq2 : H1.get p = .cells [.slice (some ⟨b, 0, none⟩) l.size c] 113 true := (hk1.2 p hltp).trans q2
  have hst : kSt H2 (.pointer (some ⟨p, 0, none⟩)) (.slice (some ⟨H1.next, 0, none⟩) (l.size + 1) capx) = some (H2.put p (.cells [.slice (some ⟨H1.next, 0, none⟩) (l.size + 1) capx] 113 true)) := by
    simp [kSt, hgp, oneC]
  exact ⟨b, c, _, H2, _, q2, hH1 ▸ hrow, hH1 ▸ hq2, hH1 ▸ ha, hst, hn⟩
theorem push_q {x : Nt} (h : Qn H0 HB p H l) (hx : ElN H x) (hs : l.size < 1000000) (K : Kv) (hK : ∀ v H', Qn H0 HB p H' (l.push x) → K v H') : run S (.inv (.c (a0N p)) "Push" [.c (elN x)]) [] H K := by
  obtain ⟨b, c, v', H2, H3, q2, hrow, hq2, ha, hst, hn⟩ := app_q h hx hs
  unfold a0N elN
  rw [inv_as (f := 120) rfl]
  have htas : ∀ {K : Kv}, run S (.tas 82 (.pointer none) true (.c (.iface 82 (ptrN x)))) [] H K = K (.tuple #[ptrN x, .bool true]) H := fun {K} => rfl
  have hit : isTup (ptrN x) = false := rfl
  have hcl : cellsL (ptrN x) = [ptrN x] := rfl
  refine w120 rfl rfl _ _ ?_
  simp [s120, q2, addOff, Env.ev, kFill, evPs, hit, hcl, wr, htas]
  rw [hrow]
  simp only [Option.bind_some, ha, oT_some, hst]
  exact hK _ _ hn
/-- the program's heap of nodes -/
theorem nodes_q : PQ2 ltN (a0N p) (Qn H0 HB p) elN ElN :=
  ⟨⟨fun H l h K hK => len_q h K hK, fun H l i j h hi hj K hK => less_q h hi hj K hK, fun H l i j hi hj h K hK => swap_q hi hj h K hK, fun H l h => h.sm⟩, fun H l x h hx hs K hK => push_q h hx hs K hK, fun H l x h K hK => pop_q h K hK⟩
end
end Go.Proofs.YtlboioplemlneaaGreat.K
/- Trees of codes, plainly: leaves, weights, depths; what a tree that was put together two by two, the lightest first, holds. -/
set_option maxRecDepth 100000
set_option maxHeartbeats 1000000
set_option linter.unusedVariables false
set_option linter.unusedSimpArgs false
namespace Go.Proofs.YtlboioplemlneaaGreat.K
open Go Go.Proofs
/-- symbols and their weights -/
def T.lv : T → List (Nat × Nat)
  | .leaf w s => [(s, w)]
  | .two _ l r => l.lv ++ r.lv
/-- symbols, their weights, and how deep they are -/
def T.dp : T → Nat → List (Nat × Nat × Nat)
  | .leaf w s, d => [(s, w, d)]
  | .two _ l r, d => l.dp (d + 1) ++ r.dp (d + 1)
def T.ht : T → Nat
  | .leaf _ _ => 0
  | .two _ l r => max l.ht r.ht + 1
def T.ic : T → Nat
  | .leaf _ _ => 0
  | .two _ l r => l.w + r.w + l.ic + r.ic
def T.kids : T → List T
  | .leaf _ _ => []
  | .two _ l r => [l, r]
/-- of two that are together neither one's parts weigh more than the other one -/
def T.sib : T → Prop
  | .leaf _ _ => True
  | .two _ l r => (∀ z ∈ l.kids, z.w ≤ r.w) ∧ (∀ z ∈ r.kids, z.w ≤ l.w) ∧ l.sib ∧ r.sib
def T.pos : T → Prop
  | .leaf w _ => 1 ≤ w
  | .two _ l r => l.pos ∧ r.pos
theorem T.pos_w : ∀ {t : T}, t.pos → 1 ≤ t.w
  | .leaf _ _, h => h
  | .two _ l r, h => by have := T.pos_w h.1; simp only [T.w]; omega
theorem T.dp_lv : ∀ (t : T) (d : Nat), (t.dp d).map (fun x => (x.1, x.2.1)) = t.lv
  | .leaf _ _, _ => rfl
  | .two _ l r, d => by simp only [T.dp, T.lv, List.map_append, T.dp_lv l, T.dp_lv r]
theorem T.lv_w : ∀ t : T, (t.lv.map (·.2)).sum = t.w
  | .leaf _ _ => by simp [T.lv, T.w]
  | .two _ l r => by simp only [T.lv, T.w, List.map_append, List.sum_append, T.lv_w l, T.lv_w r]
theorem T.dp_ge : ∀ (t : T) (d : Nat), ∀ x ∈ t.dp d, d ≤ x.2.2 ∧ x.2.2 ≤ d + t.ht
  | .leaf _ _, d, x, h => by simp only [T.dp, List.mem_singleton] at h; subst h; simp [T.ht]
  | .two _ l r, d, x, h => by
    simp only [T.dp, List.mem_append] at h
    simp only [T.ht]
    rcases h with h | h
    · have := T.dp_ge l (d + 1) x h; omega
    · have := T.dp_ge r (d + 1) x h; omega
/-- the sum of weights by depths is the sum of all that was put together -/
theorem T.dp_ic : ∀ (t : T) (d : Nat), ((t.dp d).map (fun x => x.2.1 * x.2.2)).sum = t.ic + t.w * d
  | .leaf _ _, d => by simp [T.dp, T.ic, T.w]
  | .two _ l r, d => by
    simp only [T.dp, T.ic, T.w, List.map_append, List.sum_append, T.dp_ic l, T.dp_ic r, Nat.mul_add, Nat.add_mul, Nat.mul_one]
    omega
/-- all parts of 2 ^ D are taken -/
theorem T.dp_kraft {D : Nat} : ∀ (t : T) (d : Nat), d + t.ht ≤ D → ((t.dp d).map (fun x => 2 ^ (D - x.2.2))).sum = 2 ^ (D - d)
  | .leaf _ _, d, _ => by simp [T.dp]
  | .two _ l r, d, h => by
    simp only [T.ht] at h
    simp only [T.dp, List.map_append, List.sum_append]
    rw [T.dp_kraft l (d + 1) (by omega), T.dp_kraft r (d + 1) (by omega)]
    have : D - d = (D - (d + 1)) + 1 := by omega
    rw [this, Nat.pow_succ]; omega
def fib : Nat → Nat
  | 0 => 1
  | 1 => 2
  | n + 2 => fib (n + 1) + fib n
theorem fib_mono : ∀ n, fib n ≤ fib (n + 1)
  | 0 => by decide
  | 1 => by decide
  | n + 2 => by simp only [fib]; omega
theorem fib_le {m n : Nat} (h : m ≤ n) : fib m ≤ fib n := by
  induction h with
  | refl => exact Nat.le_refl _
  | step _ ih => exact Nat.le_trans ih (fib_mono _)
theorem T.ht_kid {t : T} {n : Nat} (h : t.ht = n + 1) : ∃ z ∈ t.kids, z.ht = n := by
  cases t with
  | leaf => simp [T.ht] at h
  | two o l r =>
    simp only [T.ht] at h
    rcases (by omega : l.ht = n ∨ r.ht = n) with e | e
    · exact ⟨l, by simp [T.kids], e⟩
    · exact ⟨r, by simp [T.kids], e⟩
theorem T.kid_ok {t z : T} (hz : z ∈ t.kids) : (t.sib → z.sib) ∧ (t.pos → z.pos) ∧ z.ht < t.ht ∧ z.w ≤ t.w := by
  cases t with
  | leaf => simp [T.kids] at hz
  | two o l r =>
    simp only [T.kids, List.mem_cons, List.not_mem_nil, or_false] at hz
    rcases hz with rfl | rfl
    · exact ⟨fun h => h.2.2.1, fun h => h.1, by simp only [T.ht]; omega, by simp only [T.w]; omega⟩
    · exact ⟨fun h => h.2.2.2, fun h => h.2, by simp only [T.ht]; omega, by simp only [T.w]; omega⟩
/-- a tree that is that deep weighs so much -/
theorem T.fib_w : ∀ (n : Nat) (t : T), t.ht = n → t.sib → t.pos → fib n ≤ t.w := by
  intro n
  induction n using Nat.strongRecOn with
  | ind n ih =>
    intro t hn hs hp
    match n, hn with
    | 0, _ => exact T.pos_w hp
    | 1, hn =>
      cases t with
      | leaf => simp [T.ht] at hn
      | two o l r =>
        have := T.pos_w hp.1; have := T.pos_w hp.2
        simp only [T.w, fib]; omega
    | n + 2, hn =>
      cases t with
      | leaf => simp [T.ht] at hn
      | two o l r =>
        simp only [T.ht] at hn
        obtain ⟨s1, s2, s3, s4⟩ := hs
        simp only [T.w, fib]
        rcases (by omega : l.ht = n + 1 ∨ r.ht = n + 1) with e | e
        · obtain ⟨z, hz, hzn⟩ := T.ht_kid e
          have k := T.kid_ok hz
          have h1 := ih (n + 1) (by omega) l e s3 hp.1
          have h2 := ih n (by omega) z hzn (k.1 s3) (k.2.1 hp.1)
          have := s1 z hz
          omega
        · obtain ⟨z, hz, hzn⟩ := T.ht_kid e
          have k := T.kid_ok hz
          have h1 := ih (n + 1) (by omega) r e s4 hp.2
          have h2 := ih n (by omega) z hzn (k.1 s4) (k.2.1 hp.2)
          have := s2 z hz
          omega
/-- a tree of up to 376 in all is at most 11 deep -/
theorem T.shallow {t : T} (hs : t.sib) (hp : t.pos) (hw : t.w ≤ 376) : t.ht ≤ 11 := by
  by_cases h : t.ht ≤ 11
  · exact h
  · exfalso
    have h1 := T.fib_w t.ht t rfl hs hp
    have h2 := fib_le (show 12 ≤ t.ht by omega)
    have h3 : fib 12 = 377 := by decide
    omega
/-- what is in the queue: parts weigh no more than any other one -/
structure Wood (l : List T) : Prop where
  kid : ∀ x ∈ l, ∀ y ∈ l, ∀ z ∈ x.kids, z.w ≤ y.w
  sib : ∀ x ∈ l, x.sib
  pos : ∀ x ∈ l, x.pos
theorem Wood.perm {l l' : List T} (h : Wood l) (hp : l'.Perm l) : Wood l' := ⟨fun x hx y hy => h.kid x (hp.mem_iff.1 hx) y (hp.mem_iff.1 hy), fun x hx => h.sib x (hp.mem_iff.1 hx), fun x hx => h.pos x (hp.mem_iff.1 hx)⟩
theorem Wood.two {a b : T} {l : List T} {o : Nat} (h : Wood (a :: b :: l)) (ha : ∀ y ∈ b :: l, a.w ≤ y.w) (hb : ∀ y ∈ l, b.w ≤ y.w) : Wood (.two o a b :: l) := by
  have hab := ha b (by simp)
  have ma : a ∈ a :: b :: l := by simp
  have mb : b ∈ a :: b :: l := by simp
  have ml : ∀ {y}, y ∈ l → y ∈ a :: b :: l := fun hy => by simp [hy]
  refine ⟨fun x hx y hy z hz => ?_, fun x hx => ?_, fun x hx => ?_⟩
  · rcases List.mem_cons.1 hx with rfl | hx
    · simp only [T.kids, List.mem_cons, List.not_mem_nil, or_false] at hz
      rcases List.mem_cons.1 hy with rfl | hy
      · simp only [T.w]; rcases hz with rfl | rfl <;> omega
      · have h1 := ha y (by simp [hy])
        have h2 := hb y hy
        rcases hz with rfl | rfl
        · exact h1
        · exact h2
    · rcases List.mem_cons.1 hy with rfl | hy
      · have := h.kid x (ml hx) a ma z hz
        simp only [T.w]; omega
      · exact h.kid x (ml hx) y (ml hy) z hz
  · rcases List.mem_cons.1 hx with rfl | hx
    · exact ⟨fun z hz => h.kid a ma b mb z hz, fun z hz => h.kid b mb a ma z hz, h.sib a ma, h.sib b mb⟩
    · exact h.sib x (ml hx)
  · rcases List.mem_cons.1 hx with rfl | hx
    · exact ⟨h.pos a ma, h.pos b mb⟩
    · exact h.pos x (ml hx)
/-- the least cost: two lightest at a time -/
inductive Hc : List Nat → Nat → Prop
  | one (x : Nat) : Hc [x] 0
  | two {W W' : List Nat} {a b c : Nat} (hp : W.Perm (a :: b :: W')) (ha : ∀ y ∈ b :: W', a ≤ y) (hb : ∀ y ∈ W', b ≤ y) (h : Hc ((a + b) :: W') c) : Hc W (a + b + c)
theorem Hc.perm {W V : List Nat} {c : Nat} (h : Hc W c) (hp : V.Perm W) : Hc V c := by
  cases h with
  | one x => rw [List.perm_singleton.1 hp]; exact .one x
  | two h1 h2 h3 h4 => exact .two (hp.trans h1) h2 h3 h4
theorem least_eq {a a' : Nat} {l l' : List Nat} (hp : (a :: l).Perm (a' :: l')) (h : ∀ y ∈ l, a ≤ y) (h' : ∀ y ∈ l', a' ≤ y) : a = a' := by
  have m1 : a ∈ a' :: l' := hp.mem_iff.1 (by simp)
  have m2 : a' ∈ a :: l := hp.mem_iff.2 (by simp)
  rcases List.mem_cons.1 m1 with e | m1
  · exact e
  rcases List.mem_cons.1 m2 with e | m2
  · exact e.symm
  exact Nat.le_antisymm (h _ m2) (h' _ m1)
theorem Hc.uniq {W : List Nat} {c : Nat} (h : Hc W c) : ∀ {V : List Nat} {c' : Nat}, Hc V c' → V.Perm W → c' = c := by
  induction h with
  | one x =>
    intro V c' h hp
    rw [List.perm_singleton.1 hp] at h
    cases h with
    | one => rfl
    | two h1 _ _ _ => have := h1.length_eq; simp at this
  | two h1 h2 h3 h4 ih =>
    rename_i W W' a b c
    intro V c' h hp
    cases h with
    | one x =>
      have := (hp.trans h1).length_eq; simp at this
    | two k1 k2 k3 k4 =>
      rename_i V' a' b' c2
      have hq : (a' :: b' :: V').Perm (a :: b :: W') := k1.symm.trans (hp.trans h1)
      have ea : a' = a := least_eq hq k2 h2
      subst ea
      have hq2 := (List.perm_cons _).1 hq
      have eb : b' = b := least_eq hq2 k3 h3
      subst eb
      have hq3 := (List.perm_cons _).1 hq2
      rw [ih k4 (List.Perm.cons _ hq3)]
end Go.Proofs.YtlboioplemlneaaGreat.K
/- The program's tree of counts. -/
set_option maxRecDepth 100000
set_option maxHeartbeats 4000000
set_option linter.unusedVariables false
set_option linter.unusedSimpArgs false
namespace Go.Proofs.YtlboioplemlneaaGreat.K
open Go Go.Proofs
/-- the symbols ahead of n that come, and how often -/
def lvs (l : List Int) : Nat → List (Nat × Nat)
  | 0 => []
  | n + 1 => if 0 < at0 l n then lvs l n ++ [(n, (at0 l n).toNat)] else lvs l n
theorem lvs_len (l : List Int) : ∀ n, (lvs l n).length ≤ n
  | 0 => by simp [lvs]
  | n + 1 => by
    have := lvs_len l n
    simp only [lvs]; split <;> simp <;> omega
def tsOf (q : Array Nt) : List T := q.toList.map (·.t)
theorem tsOf_push (q : Array Nt) (x : Nt) : tsOf (q.push x) = tsOf q ++ [x.t] := by simp [tsOf]
theorem tsOf_len (q : Array Nt) : (tsOf q).length = q.size := by simp [tsOf]
theorem tsOf_perm {q q' : Array Nt} (h : q.Perm q') : (tsOf q).Perm (tsOf q') := (Array.perm_iff_toList_perm.1 h).map _
theorem tsOf_mem {q : Array Nt} {t : T} (h : t ∈ tsOf q) : ∃ x ∈ q, x.t = t := by
  simp only [tsOf, List.mem_map, Array.mem_toList_iff] at h
  exact h
section
variable {H0 HB H : Heap} {p : Nat} {l : Array Nt}
theorem take_t (h : Qn H0 HB p H l) (h0 : 0 < l.size) (hf : HeapF ltN l 0 l.size) : Wf S 81 [.pointer (some ⟨p, 0, none⟩)] H fun v H' => ∃ x l', v = ptrN x ∧ ElN H' x ∧ Qn H0 HB p H' l' ∧ (l'.push x).Perm l ∧ HeapF ltN l' 0 l'.size ∧ ∀ y ∈ l', x.t.w ≤ y.t.w := by
  refine w81 rfl rfl _ ?_
  have hm : ∀ {K : Kv}, run S (.mki 111 (.c (.pointer (some ⟨p, 0, none⟩)))) [] H K = K (a0N p) H := fun {K} => rfl
  simp only [s81, hm]
  have hp := Pop_t nodes_q ltN_ord h h0 hf
  simp
  refine hp.mono ?_
  rintro v H1 ⟨x, l', rfl, h1, h2, h3, h4, h5⟩
  have htas : ∀ {K : Kv}, run S (.tas 82 (.pointer none) true (.c (elN x))) [] H1 K = K (.tuple #[ptrN x, .bool true]) H1 := fun {K} => rfl
  rw [htas]
  simp
  exact ⟨x, rfl, h1, l', h2, h3, h4, fun y hy => ltN_w (h5 y hy)⟩
end
section
variable {H : Heap} {a : Option Addr} {c : Nat} {l : List Int}
/-- the first loop: a leaf for each symbol that comes -/
structure LfI (H0 : Heap) (p : Nat) (a0 : Value) (l : List Int) (d : Nat) (e : Fe) (H : Heap) (i : Nat) (q : Array Nt) : Prop where
  hi : i ≤ l.length
  h2 : d = l.length - i
  qn : Qn H0 H0 p H q
  ts : tsOf q = (lvs l i).map fun x => .leaf x.2 x.1
  e4 : e 4 = .pointer (some ⟨p, 0, none⟩)
  e14 : e 14 = a0
  e15 : e 15 = .int .i64 l.length
  e16 : e 16 = .int .i64 i
/-- the second loop: two by two -/
structure TrI (H0 : Heap) (p : Nat) (L : List (Nat × Nat)) (d : Nat) (e : Fe) (H : Heap) (q : Array Nt) (k ic : Nat) : Prop where
  h2 : d = q.size
  pos : 0 < q.size
  hk : k + q.size = L.length
  qn : Qn H0 H0 p H q
  hf : HeapF ltN q 0 q.size
  wood : Wood (tsOf q)
  lv : ((tsOf q).flatMap T.lv).Perm L
  hic : ic = ((tsOf q).map T.ic).sum
  hb : ic ≤ k * (L.map (·.2)).sum
  hc : ∀ c, Hc ((tsOf q).map T.w) c → Hc (L.map (·.2)) (ic + c)
  e4 : e 4 = .pointer (some ⟨p, 0, none⟩)
  e7 : e 7 = .int .i64 ic
  e8 : e 8 = .int .i64 ((256 + k : Nat) : Int)
theorem lv_sum (l : List T) : ((l.flatMap T.lv).map (·.2)).sum = (l.map T.w).sum := by
  induction l with
  | nil => rfl
  | cons t l ih => simp only [List.flatMap_cons, List.map_append, List.sum_append, List.map_cons, List.sum_cons, T.lv_w, ih]
theorem leaf_lv (L : List (Nat × Nat)) : ((L.map fun x => T.leaf x.2 x.1).flatMap T.lv) = L := by
  induction L with
  | nil => rfl
  | cons x L ih => simp only [List.map_cons, List.flatMap_cons, ih]; rfl
theorem leaf_w (L : List (Nat × Nat)) : ((L.map fun x => T.leaf x.2 x.1).map T.w) = L.map (·.2) := by
  induction L with
  | nil => rfl
  | cons x L ih => simp only [List.map_cons, ih]; rfl
theorem leaf_ic (L : List (Nat × Nat)) : ((L.map fun x => T.leaf x.2 x.1).map T.ic).sum = 0 := by
  induction L with
  | nil => rfl
  | cons x L ih => simp only [List.map_cons, List.sum_cons, ih]; rfl
theorem lvs_pos (l : List Int) : ∀ n, ∀ x ∈ lvs l n, 1 ≤ x.2
  | 0, x, h => by simp [lvs] at h
  | n + 1, x, h => by
    simp only [lvs] at h
    split at h
    · rcases List.mem_append.1 h with h | h
      · exact lvs_pos l n x h
      · simp only [List.mem_singleton] at h; subst h; simp only; omega
    · exact lvs_pos l n x h
theorem leaf_wood {L : List (Nat × Nat)} (h : ∀ x ∈ L, 1 ≤ x.2) : Wood (L.map fun x => T.leaf x.2 x.1) := by
  refine ⟨fun x hx y hy z hz => ?_, fun x hx => ?_, fun x hx => ?_⟩ <;> obtain ⟨u, hu, rfl⟩ := List.mem_map.1 hx
  · simp [T.kids] at hz
  · trivial
  · exact h u hu
theorem sum_le {l : List Nat} {b : Nat} (h : ∀ x ∈ l, x ≤ b) : l.sum ≤ l.length * b := by
  induction l with
  | nil => simp
  | cons x l ih =>
    have := h x (by simp)
    have := ih (fun y hy => h y (by simp [hy]))
    simp only [List.sum_cons, List.length_cons, Nat.succ_mul]; omega
theorem lvs_le {l : List Int} (h : ∀ x ∈ l, 0 ≤ x ∧ x ≤ 1048576) (hb : ∀ i, 0 ≤ at0 l i ∧ at0 l i ≤ 1048576) : ∀ n, ∀ x ∈ lvs l n, x.2 ≤ 1048576
  | 0, x, hx => by simp [lvs] at hx
  | n + 1, x, hx => by
    simp only [lvs] at hx
    have := hb n
    split at hx
    · rcases List.mem_append.1 hx with hx | hx
      · exact lvs_le h hb n x hx
      · simp only [List.mem_singleton] at hx; subst hx; simp only; omega
    · exact lvs_le h hb n x hx
theorem ct_bd {l : List Int} (h : ∀ x ∈ l, 0 ≤ x ∧ x ≤ 1048576) (i : Nat) : 0 ≤ at0 l i ∧ at0 l i ≤ 1048576 := by
  cases hx : l[i]? with
  | none => unfold at0; rw [List.getD_eq_getElem?_getD, hx]; simp
  | some x => rw [at0_of hx]; exact h x (List.mem_of_getElem? hx)
theorem tree_t (hl : Iv H a l) (hlen : l.length ≤ 256) (hbd : ∀ x ∈ l, 0 ≤ x ∧ x ≤ 1048576) (hpos : 0 < (lvs l l.length).length) :
    Wf S 53 [.slice a l.length c] H fun v H' => Kp H.next H H' ∧ ∃ x : Nt, v = .tuple #[ptrN x, .int .i64 x.t.ic] ∧ ElN H' x ∧ x.t.sib ∧ x.t.pos ∧ x.t.lv.Perm (lvs l l.length) ∧ Hc ((lvs l l.length).map (·.2)) x.t.ic := by
  refine w53 rfl rfl _ ?_
  simp [s53, kFill, evPs, isTup, cellsL]
  obtain ⟨p, hp⟩ : ∃ p, p = H.next + 1 := ⟨_, rfl⟩
  obtain ⟨H1, hH1⟩ : ∃ H1, H1 = (H.push (.cells [] 82 true)).push (.cells [.slice (some ⟨H.next, 0, none⟩) 0 0] 113 true) := ⟨_, rfl⟩
  have hq1 : Qn H H p H1 #[] := by
    refine ⟨⟨by rw [hH1]; simp; omega, fun k hk => by rw [hH1, get_old (by simp; omega), get_old hk]⟩, by omega, by simp, ⟨H.next, 0, [], Nat.le_refl _, ?_, .inr ⟨rfl, rfl⟩, ?_, by simp, by simp⟩, by simp, fun k cs hk => ?_⟩
    · rw [hH1, hp]
      have := get_last (H := H.push (.cells [] 82 true)) (b := .cells [.slice (some ⟨H.next, 0, none⟩) 0 0] 113 true)
      simp
    · rw [hH1, get_old (by simp), get_last]
    · have := lt_cells hk
      rw [hH1, get_old (by simp; omega), get_old this]
  rw [← hH1, ← hp]
  refine l53_1 S (fun d e H' => ∃ i q, LfI H p (.slice a l.length c) l d e H' i q) l.length ⟨0, #[], by omega, by omega, hq1, rfl, by simp, by simp, by simp, by simp⟩ ?_
  rintro d e H2 ⟨i, q, hi, rfl, hq, hts, e4, e14, e15, e16⟩
  by_cases h3 : i < l.length
  · obtain ⟨b, o, cs, rw, rfl, hg, hc⟩ := (hl.kp hq.kp) (by omega)
    obtain ⟨x, hx⟩ : ∃ x, l[i]? = some x := ⟨_, List.getElem?_eq_getElem h3⟩
    have hcx := hc i x hx
    have hw : IntKind.i64.wrap ((i : Int) + 1) = (i : Int) + 1 := wi (by omega) (by omega)
    have hat := at0_of hx
    have hb := hbd x (List.mem_of_getElem? hx)
    by_cases h4 : 0 < x
    · obtain ⟨w, rfl⟩ : ∃ w : Nat, x = (w : Int) := ⟨x.toNat, by omega⟩
      have h4' : 0 < w := by omega
      obtain ⟨HN, hHN⟩ : ∃ HN, HN = H2.push (.cells [.int .i64 w, .int .i64 i, .int .i64 i, .pointer none, .pointer none] 86 true) := ⟨_, rfl⟩
      have hkN : Kp H2.next H2 HN := hHN ▸ Kp.push (Nat.le_refl _)
      have hxN : ElN HN ⟨H2.next, .leaf w i⟩ := by show HN.get H2.next = _; rw [hHN, get_last]
      have hqs : q.size < 1000000 := by
        have := lvs_len l i
        have h1 := congrArg List.length hts
        rw [tsOf_len, List.length_map] at h1
        omega
      obtain ⟨b2, c2, v', H3, H4, q2, hrow, hq2, ha, hst, hn⟩ := app_q (hq.step hkN) hxN hqs
      have hpl : p < H2.next := by
        obtain ⟨_, _, _, _, h2, _⟩ := hq.v
        exact lt_cells h2
      rw [hkN.2 p hpl] at q2
      have hNn : HN.next = H2.next + 1 := by rw [hHN]; simp
      have hyes : lvs l (i + 1) = lvs l i ++ [(i, w)] := by simp only [lvs]; rw [hat, if_pos h4]; simp
      rw [hNn] at hrow
      simp only [ptrN] at hrow ha
      simp [s53_1, e4, e14, e15, e16, h3, addOff, hg, hcx, h4, h4', kFill, evPs, isTup, cellsL, wr, q2, hw]
      rw [← hHN, hrow]
      simp only [Option.bind_some, ha, oT_some, hst]
      exact ⟨l.length - (i + 1), by omega, i + 1, _, by omega, rfl, hn, by rw [tsOf_push, hts, hyes, List.map_append]; rfl, by simp [e4], by simp [e14], by simp [e15], by simp⟩
    · have hno : lvs l (i + 1) = lvs l i := by simp only [lvs]; rw [hat, if_neg h4]
      simp [s53_1, e4, e14, e15, e16, h3, addOff, hg, hcx, h4, hw]
      exact ⟨l.length - (i + 1), by omega, i + 1, q, by omega, rfl, hq, by rw [hno]; exact hts, by simp [e4], by simp [e14], by simp [e15], by simp⟩
  · have h5 : i = l.length := by omega
    subst h5
    have hm : ∀ {K : Kv} {H : Heap}, run S (.mki 111 (.c (.pointer (some ⟨p, 0, none⟩)))) [] H K = K (a0N p) H := fun {K} {H} => rfl
    have hm2 : ∀ {K : Kv} {H : Heap} {b : Nat}, run S (.mki 82 (.c (.pointer (some ⟨b, 0, none⟩)))) [] H K = K (.iface 82 (.pointer (some ⟨b, 0, none⟩))) H := fun {K} {H} {b} => rfl
    obtain ⟨L, hL⟩ : ∃ L, L = lvs l l.length := ⟨_, rfl⟩
    rw [← hL] at hts hpos
    rw [← hL]
    have hLl : L.length ≤ 256 := by have := lvs_len l l.length; rw [hL]; omega
    have hLs : (L.map (·.2)).sum ≤ 268435456 := by
      have := sum_le (l := L.map (·.2)) (b := 1048576) (fun x hx => by
        obtain ⟨u, hu, rfl⟩ := List.mem_map.1 hx
        rw [hL] at hu
        exact lvs_le hbd (ct_bd hbd) _ u hu)
      rw [List.length_map] at this
      have : L.length * 1048576 ≤ 256 * 1048576 := Nat.mul_le_mul_right _ hLl
      omega
    simp [s53_1, e4, e14, e15, e16]
    rw [hm]
    have hin := Init_t nodes_q.pq ltN_ord hq
    refine hin.mono ?_
    rintro v H3 ⟨q1, hq1, hp1, hf1⟩
    have hsz : q1.size = q.size := by
      have := (Array.perm_iff_toList_perm.1 hp1).length_eq
      simpa using this
    have hqL : q.size = L.length := by rw [← tsOf_len, hts, List.length_map]
    have hpt := tsOf_perm hp1
    try simp
    refine l53_0 S (fun d e H' => ∃ q k ic, TrI H p L d e H' q k ic) q1.size ⟨q1, 0, 0, rfl, by omega, by omega, hq1, by rw [hsz]; exact hf1, (hts ▸ leaf_wood (hL ▸ lvs_pos l l.length)).perm hpt, ?_, ?_, by omega, ?_, by simp [e4], by simp, by simp⟩ ?_
    · have := (hpt.flatMap_right T.lv)
      rw [hts, leaf_lv] at this
      exact this
    · have := (hpt.map T.ic).sum_nat
      rw [hts, leaf_ic] at this
      exact this.symm
    · intro c hc
      have := hc.perm (hpt.map T.w).symm
      rw [hts, leaf_w] at this
      simpa using this
    clear hin hpt hsz hf1 hq1 hp1 hts hqL hq
    rintro d e H4 ⟨q2, k, ic, rfl, hp2, hk2, hq2, hf2, hw2, hlv2, hic2, hb2, hc2, e4, e7, e8⟩
    have hkk := hq2.kp
    obtain ⟨b, c2, cs, y1, y2, y3, y4, y5, y6⟩ := hq2.v
    by_cases h7 : 1 < q2.size
    · have h7' : (1 : Int) < q2.size := by omega
      have hlen : Wf S 80 [.slice (some ⟨b, 0, none⟩) q2.size c2] H4 fun v H' => v = .int .i64 q2.size ∧ H' = H4 := by
        refine w80 rfl rfl _ ?_
        simp [s80]
      simp [s53_0, e4, e7, e8, y2]
      refine hlen.mono ?_
      rintro v H5 ⟨rfl, rfl⟩
      simp [h7, h7', e4]
      refine (take_t hq2 hp2 hf2).mono ?_
      rintro v H6 ⟨x, q3, rfl, hx6, hq3, hp3, hf3, hl3⟩
      have hs3 : q3.size + 1 = q2.size := by
        have := (Array.perm_iff_toList_perm.1 hp3).length_eq
        simpa using this
      try simp [e4]
      refine (take_t hq3.re (by omega) hf3).mono ?_
      rintro v H7 ⟨y, q4, rfl, hy7, hq4, hp4, hf4, hl4⟩
      have hs4 : q4.size + 1 = q3.size := by
        have := (Array.perm_iff_toList_perm.1 hp4).length_eq
        simpa using this
      have hx7 : ElN H7 x := Nd.kn hq4.kn hx6
      have hq4' := hq4.of hq3.kn
      obtain ⟨_, _, _, gx⟩ := hx7.get
      obtain ⟨_, _, _, gy⟩ := hy7.get
      -- the trees as lists
      have t3 : (tsOf q2).Perm (x.t :: tsOf q3) := ((tsOf_perm hp3).symm.trans (by rw [tsOf_push])).trans (List.perm_append_singleton _ _)
      have t4 : (tsOf q3).Perm (y.t :: tsOf q4) := ((tsOf_perm hp4).symm.trans (by rw [tsOf_push])).trans (List.perm_append_singleton _ _)
      have t34 : (tsOf q2).Perm (x.t :: y.t :: tsOf q4) := t3.trans (t4.cons _)
      have mx : ∀ z ∈ y.t :: tsOf q4, x.t.w ≤ z.w := fun z hz => by
        obtain ⟨u, hu, rfl⟩ := tsOf_mem (t4.mem_iff.2 hz)
        exact hl3 u hu
      have my : ∀ z ∈ tsOf q4, y.t.w ≤ z.w := fun z hz => by
        obtain ⟨u, hu, rfl⟩ := tsOf_mem hz
        exact hl4 u hu
      have hWs : ((tsOf q2).map T.w).sum = (L.map (·.2)).sum := by
        rw [← lv_sum]; exact (hlv2.map _).sum_nat
      have hW2 : ((tsOf q2).map T.w).sum = x.t.w + (y.t.w + ((tsOf q4).map T.w).sum) := by
        have := (t34.map T.w).sum_nat
        simpa using this
      have hicb : ic ≤ 256 * 268435456 := Nat.le_trans hb2 (Nat.mul_le_mul (by omega) hLs)
      obtain ⟨w, hw⟩ : ∃ w, w = x.t.w + y.t.w := ⟨_, rfl⟩
      have w1 : IntKind.i64.wrap ((x.t.w : Int) + (y.t.w : Int)) = (w : Int) := by rw [wi (by omega) (by omega)]; omega
      have w2 : IntKind.i64.wrap ((ic : Int) + (w : Int)) = ((ic + w : Nat) : Int) := by rw [wi (by omega) (by omega)]; omega
      have w3 : IntKind.i64.wrap (((256 + k : Nat) : Int) + 1) = ((256 + (k + 1) : Nat) : Int) := by rw [wi (by omega) (by omega)]; omega
      obtain ⟨o, ho⟩ : ∃ o, o = 256 + k := ⟨_, rfl⟩
      rw [← ho] at w3 e8
      obtain ⟨HN, hHN⟩ : ∃ HN, HN = H7.push (.cells [.int .i64 w, .int .i64 o, .int .i64 (-1), ptrN x, ptrN y] 86 true) := ⟨_, rfl⟩
      have hkN : Kp H7.next H7 HN := hHN ▸ Kp.push (Nat.le_refl _)
      have hxN : ElN HN ⟨H7.next, .two o x.t y.t⟩ := by
        refine ⟨x.b, y.b, ?_, Nd.kn (KN.kp hkN) hx7, Nd.kn (KN.kp hkN) hy7⟩
        rw [hHN, get_last, hw]; rfl
      have hps := Push_t nodes_q ltN_ord (hq4'.step hkN) hf4 hxN (by have := hq4.sm; omega)
      simp [e4, e7, e8, ptrN, addOff, gx, gy, w1, kFill, evPs, isTup, cellsL, wr, w2]
      rw [hm, hm2]
      simp only [ptrN] at hHN
      rw [← hHN]
      refine Wf.mono hps ?_
      rintro v H8 ⟨q5, hq5, hp5, hf5⟩
      have hs5 : q5.size = q4.size + 1 := by
        have := (Array.perm_iff_toList_perm.1 hp5).length_eq
        simpa using this
      have t5 : (tsOf q5).Perm (.two o x.t y.t :: tsOf q4) := ((tsOf_perm hp5).trans (by rw [tsOf_push])).trans (List.perm_append_singleton _ _)
      have f8 : IntKind.i64.wrap ((o : Int) + 1) = ((256 + (k + 1) : Nat) : Int) := w3
      simp [f8]
      refine ⟨q5.size, by omega, q5, k + 1, ic + w, rfl, by omega, by omega, hq5, hf5, ?_, ?_, ?_, ?_, ?_, by simp [e4], by simp, by simp⟩
      · exact ((hw2.perm t34.symm).two mx my).perm t5
      · refine (t5.flatMap_right T.lv).trans ?_
        have := (t34.symm.flatMap_right T.lv).trans hlv2
        simpa [T.lv, List.append_assoc] using this
      · have h1 := (t5.map T.ic).sum_nat
        have h2 := (t34.map T.ic).sum_nat
        simp only [List.map_cons, List.sum_cons, T.ic] at h1 h2
        omega
      · have : w ≤ (L.map (·.2)).sum := by omega
        rw [Nat.succ_mul]; omega
      · intro c hc
        have h1 : Hc (w :: (tsOf q4).map T.w) c := by
          refine hc.perm ?_
          have := (t5.map T.w).symm
          rw [hw]
          exact this
        have h2 : Hc ((tsOf q2).map T.w) (w + c) := by
          rw [hw]
          refine .two (W' := (tsOf q4).map T.w) (t34.map T.w) (fun z hz => ?_) (fun z hz => ?_) (hw ▸ h1)
          · rw [← List.map_cons] at hz
            obtain ⟨u, hu, rfl⟩ := List.mem_map.1 hz
            exact mx u hu
          · obtain ⟨u, hu, rfl⟩ := List.mem_map.1 hz
            exact my u hu
        have := hc2 _ h2
        rw [show ic + w + c = ic + (w + c) by omega]
        exact this
    · have h8 : q2.size = 1 := by omega
      have h7' : ¬ (1 : Int) < q2.size := by omega
      have hlen : Wf S 80 [.slice (some ⟨b, 0, none⟩) q2.size c2] H4 fun v H' => v = .int .i64 q2.size ∧ H' = H4 := by
        refine w80 rfl rfl _ ?_
        simp [s80]
      simp [s53_0, e4, e7, e8, y2]
      refine hlen.mono ?_
      rintro v H5 ⟨rfl, rfl⟩
      simp [h7, h7', e4, e7]
      refine (take_t hq2 hp2 hf2).mono ?_
      rintro v H6 ⟨x, q3, rfl, hx6, hq3, hp3, hf3, hl3⟩
      have hs3 : q3.size + 1 = q2.size := by
        have := (Array.perm_iff_toList_perm.1 hp3).length_eq
        simpa using this
      have h30 : tsOf q3 = [] := List.eq_nil_of_length_eq_zero (by rw [tsOf_len]; omega)
      have t3 : (tsOf q2).Perm [x.t] := by
        have := ((tsOf_perm hp3).symm.trans (by rw [tsOf_push]))
        rw [h30] at this
        exact this
      have hic3 : ic = x.t.ic := by
        have := (t3.map T.ic).sum_nat
        simp at this; omega
      have hxl := (t3.symm.flatMap_right T.lv).trans hlv2
      simp at hxl
      have hwd := hw2.perm t3.symm
      have hH : Hc (L.map (·.2)) x.t.ic := by
        have := hc2 0 ((Hc.one x.t.w).perm (t3.map T.w))
        rw [hic3] at this
        exact this
      simp [tup, hic3, e7]
      exact ⟨hq3.kp, x, ⟨rfl, rfl⟩, hx6, hwd.sib x.t (by simp), hwd.pos x.t (by simp), hxl, hH⟩
end
end Go.Proofs.YtlboioplemlneaaGreat.K
