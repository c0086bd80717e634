/- container/heap over anything that is a heap by its own Len, Less and Swap. -/
import Derived.Test.YtlboioplemlneaaPA
import Derived.Test.YtlboioplemlneaaKLowSh1
import Derived.Test.YtlboioplemlneaaKF3
set_option maxRecDepth 100000
set_option maxHeartbeats 2000000
set_option linter.unusedVariables false
set_option linter.unusedSimpArgs false
namespace Go.Proofs.Ytlboioplemlneaa.K
open Go Go.Proofs
section
variable {α : Type} [Inhabited α]
/-- what stands behind an interface: an array, by Len, Less, Swap -/
structure PQ (lt : α → α → Bool) (a0 : Value) (Q : Heap → Array α → Prop) : Prop where
  len : ∀ H l, Q H l → ∀ K : Kv, K (.int .i64 l.size) H → run S (.inv (.c a0) "Len" []) [] H K
  less : ∀ H l (i j : Nat), Q H l → i < l.size → j < l.size → ∀ K : Kv, (∀ H', Q H' l → K (.bool (lt (ix l i) (ix l j))) H') → run S (.inv (.c a0) "Less" [.c (.int .i64 i), .c (.int .i64 j)]) [] H K
  swap : ∀ H l (i j : Nat) (hi : i < l.size) (hj : j < l.size), Q H l → ∀ K : Kv, (∀ v H', Q H' (l.swap i j hi hj) → K v H') → run S (.inv (.c a0) "Swap" [.c (.int .i64 i), .c (.int .i64 j)]) [] H K
  small : ∀ H l, Q H l → l.size ≤ 1000000
variable {lt : α → α → Bool} {a0 : Value} {Q : Heap → Array α → Prop} {H : Heap} {l : Array α}
/-- the same, in another order; from n on as it was -/
def Same (l l' : Array α) (n : Nat) : Prop := l'.Perm l ∧ ∀ k, n ≤ k → ix l' k = ix l k
theorem Same.refl (l : Array α) (n : Nat) : Same l l n := ⟨Array.Perm.refl _, fun _ _ => rfl⟩
theorem Same.size {l l' : Array α} {n : Nat} (h : Same l l' n) : l'.size = l.size := by
  have := (Array.perm_iff_toList_perm.1 h.1).length_eq
  simpa using this
theorem Same.swap {l l' : Array α} {n i j : Nat} (h : Same l l' n) (hi : i < l'.size) (hj : j < l'.size) (hin : i < n) (hjn : j < n) : Same l (l'.swap i j hi hj) n :=
  ⟨(Array.swap_perm hi hj).trans h.1, fun k hk => by rw [ix_swap, if_neg (by omega), if_neg (by omega)]; exact h.2 k hk⟩
structure DoI (lt : α → α → Bool) (a0 : Value) (Q : Heap → Array α → Prop) (l : Array α) (lo n : Nat) (i0 : Value) (d : Nat) (e : Fe) (H : Heap) (l' : Array α) (i : Nat) : Prop where
  q : Q H l'
  same : Same l l' n
  inv : DInv lt l' lo n i
  h2 : d = n + n - i
  hi : i ≤ n
  e0 : e 0 = a0
  e1 : e 1 = i0
  e2 : e 2 = .int .i64 n
  e7 : e 7 = .int .i64 i
theorem down_t (hq : PQ lt a0 Q) (ho : Ord lt) (h : Q H l) {lo n : Nat} (hn : n ≤ l.size) (hlo : lo ≤ n) (hd : DInv lt l lo n lo) :
    Wf S 131 [a0, .int .i64 lo, .int .i64 n] H fun v H' => ∃ l', Q H' l' ∧ Same l l' n ∧ HeapF lt l' lo n := by
  have hsm := hq.small H l h
  refine w131 rfl rfl _ _ _ ?_
  simp [s131]
  refine l131_0 S (fun d e H' => ∃ l' i, DoI lt a0 Q l lo n (.int .i64 lo) d e H' l' i) (n + n - lo) ⟨l, lo, h, Same.refl _ _, hd, rfl, hlo, by simp, by simp, by simp, by simp⟩ ?_
  rintro d e H1 ⟨l1, i, hq1, hs, hi, rfl, hin, e0, e1, e2, e7⟩
  have hsz := hs.size
  have hlo2 := hi.c
  obtain ⟨j1, hj1⟩ : ∃ j1, j1 = 2 * i + 1 := ⟨_, rfl⟩
  obtain ⟨j2, hj2⟩ : ∃ j2, j2 = 2 * i + 2 := ⟨_, rfl⟩
  obtain ⟨i2, hi2⟩ : ∃ i2, i2 = 2 * i := ⟨_, rfl⟩
  have w1 : IntKind.i64.wrap (2 * (i : Int)) = (i2 : Int) := by rw [wi (by omega) (by omega)]; omega
  have w2 : IntKind.i64.wrap ((i2 : Int) + 1) = (j1 : Int) := by rw [wi (by omega) (by omega)]; omega
  have w3 : IntKind.i64.wrap ((j1 : Int) + 1) = (j2 : Int) := by rw [wi (by omega) (by omega)]; omega
  by_cases h1 : n ≤ j1
  · have h1' : (n : Int) ≤ j1 := by omega
    simp [s131_0, e0, e1, e2, e7, w1, w2, h1, h1']
    exact ⟨l1, hq1, hs, hi.none (by omega)⟩
  have h1' : ¬ (n : Int) ≤ j1 := by omega
  have h1'' : ¬ (j1 : Int) < 0 := by omega
  simp [s131_0, e0, e1, e2, e7, w1, w2, h1, h1', h1'', w3]
  by_cases h2 : j2 < n
  · have h2' : (j2 : Int) < n := by omega
    simp [h2]
    refine hq.less H1 l1 j2 j1 hq1 (by omega) (by omega) _ fun H2 hq2 => ?_
    cases hb : lt (ix l1 j2) (ix l1 j1) with
    | false =>
      simp [e0, e7]
      have hmin : ∀ k, 0 < k → k < n → (k - 1) / 2 = i → lt (ix l1 k) (ix l1 j1) = false := fun k k0 k1 k2 => by
              rcases (by omega : k = j1 ∨ k = j2) with rfl | rfl
              · exact ho.refl _
              · exact hb
      refine hq.less H2 l1 j1 i hq2 (by omega) (by omega) _ fun H3 hq3 => ?_
      cases hb2 : lt (ix l1 j1) (ix l1 i) with
      | false =>
        simp [e1, e7]
        exact ⟨l1, hq3, hs, hi.stop ho hmin hb2⟩
      | true =>
        simp [e0, e7]
        refine hq.swap H3 l1 i j1 (by omega) (by omega) hq3 _ fun v H4 hq4 => ?_
        try simp
        exact ⟨n + n - j1, by omega, _, j1, hq4, hs.swap (by omega) (by omega) (by omega) (by omega), hi.step ho (by omega) (by omega) (by omega) (by omega) hmin hb2, rfl, by omega, by simp [e0], by simp [e1], by simp [e2], by simp⟩
    | true =>
      simp [e0, e7]
      have hmin : ∀ k, 0 < k → k < n → (k - 1) / 2 = i → lt (ix l1 k) (ix l1 j2) = false := fun k k0 k1 k2 => by
              rcases (by omega : k = j1 ∨ k = j2) with rfl | rfl
              · exact ho.asym _ _ hb
              · exact ho.refl _
      refine hq.less H2 l1 j2 i hq2 (by omega) (by omega) _ fun H3 hq3 => ?_
      cases hb2 : lt (ix l1 j2) (ix l1 i) with
      | false =>
        simp [e1, e7]
        exact ⟨l1, hq3, hs, hi.stop ho hmin hb2⟩
      | true =>
        simp [e0, e7]
        refine hq.swap H3 l1 i j2 (by omega) (by omega) hq3 _ fun v H4 hq4 => ?_
        try simp
        exact ⟨n + n - j2, by omega, _, j2, hq4, hs.swap (by omega) (by omega) (by omega) (by omega), hi.step ho (by omega) (by omega) (by omega) (by omega) hmin hb2, rfl, by omega, by simp [e0], by simp [e1], by simp [e2], by simp⟩
  · have h2' : ¬ (j2 : Int) < n := by omega
    simp [h2, e0, e7]
    have hmin : ∀ k, 0 < k → k < n → (k - 1) / 2 = i → lt (ix l1 k) (ix l1 j1) = false := fun k k0 k1 k2 => by
          have : k = j1 := by omega
          subst this
          exact ho.refl _
    refine hq.less H1 l1 j1 i hq1 (by omega) (by omega) _ fun H3 hq3 => ?_
    cases hb2 : lt (ix l1 j1) (ix l1 i) with
    | false =>
      simp [e1, e7]
      exact ⟨l1, hq3, hs, hi.stop ho hmin hb2⟩
    | true =>
      simp [e0, e7]
      refine hq.swap H3 l1 i j1 (by omega) (by omega) hq3 _ fun v H4 hq4 => ?_
      try simp
      exact ⟨n + n - j1, by omega, _, j1, hq4, hs.swap (by omega) (by omega) (by omega) (by omega), hi.step ho (by omega) (by omega) (by omega) (by omega) hmin hb2, rfl, by omega, by simp [e0], by simp [e1], by simp [e2], by simp⟩
structure UpI (lt : α → α → Bool) (a0 : Value) (Q : Heap → Array α → Prop) (l : Array α) (n : Nat) (d : Nat) (e : Fe) (H : Heap) (l' : Array α) (j : Nat) : Prop where
  q : Q H l'
  same : Same l l' n
  inv : UInv lt l' n j
  h2 : d = j
  hj : j < n
  e0 : e 0 = a0
  e1 : e 1 = .int .i64 j
theorem up_t (hq : PQ lt a0 Q) (ho : Ord lt) (h : Q H l) {j : Nat} (hj : j < l.size) (hu : UInv lt l l.size j) :
    Wf S 132 [a0, .int .i64 j] H fun v H' => ∃ l', Q H' l' ∧ Same l l' l.size ∧ HeapF lt l' 0 l.size := by
  have hsm := hq.small H l h
  refine w132 rfl rfl _ _ ?_
  simp [s132]
  refine l132_0 S (fun d e H' => ∃ l' i, UpI lt a0 Q l l.size d e H' l' i) j ⟨l, j, h, Same.refl _ _, hu, rfl, hj, by simp, by simp⟩ ?_
  rintro d e H1 ⟨l1, i, hq1, hs, hi, rfl, hin, e0, e1⟩
  have hsz := hs.size
  by_cases h0 : d = 0
  · subst h0
    have w1 : IntKind.i64.wrap (((0 : Nat) : Int) - 1) = -1 := by decide
    have w2 : IntKind.i64.wrap ((-1 : Int).tdiv 2) = 0 := by decide
    simp [s132_0, e0, e1, w1, w2]
    exact ⟨l1, hq1, hs, hi.top⟩
  · obtain ⟨i, hi0⟩ : ∃ i, i = (d - 1) / 2 := ⟨_, rfl⟩
    obtain ⟨m, hm⟩ : ∃ m, m = d - 1 := ⟨_, rfl⟩
    have w1 : IntKind.i64.wrap ((d : Int) - 1) = (m : Int) := by rw [wi (by omega) (by omega)]; omega
    have w2 : IntKind.i64.wrap ((m : Int).tdiv 2) = (i : Int) := by rw [Int.tdiv_eq_ediv_of_nonneg (by omega), wi (by omega) (by omega)]; omega
    have w2' : IntKind.i64.wrap ((m : Int) / 2) = (i : Int) := by rw [wi (by omega) (by omega)]; omega
    have h1 : ¬ (i : Int) = d := by omega
    have h1' : ¬ i = d := by omega
    simp [s132_0, e0, e1, w1, w2, w2', h1, h1']
    refine hq.less H1 l1 d i hq1 (by omega) (by omega) _ fun H3 hq3 => ?_
    cases hb2 : lt (ix l1 d) (ix l1 i) with
    | false =>
      simp [e1]
      exact ⟨l1, hq3, hs, hi.stop (hi0 ▸ hb2)⟩
    | true =>
      simp [e0, e1]
      refine hq.swap H3 l1 i d (by omega) (by omega) hq3 _ fun v H4 hq4 => ?_
      try simp
      exact ⟨i, by omega, _, i, hq4, hs.swap (by omega) (by omega) (by omega) (by omega), hi.step ho (by omega) (by omega) hi0.symm (by omega) hb2, rfl, by omega, by simp [e0], by simp⟩
structure InI (lt : α → α → Bool) (a0 : Value) (Q : Heap → Array α → Prop) (l : Array α) (d : Nat) (e : Fe) (H : Heap) (l' : Array α) : Prop where
  q : Q H l'
  same : Same l l' l.size
  inv : HeapF lt l' d l.size
  hd : d ≤ l.size
  e0 : e 0 = a0
  e2 : e 2 = .int .i64 l.size
  e3 : e 3 = .int .i64 ((d : Int) - 1)
theorem Init_t (hq : PQ lt a0 Q) (ho : Ord lt) (h : Q H l) :
    Wf S 111 [a0] H fun v H' => ∃ l', Q H' l' ∧ l'.Perm l ∧ HeapF lt l' 0 l.size := by
  have hsm := hq.small H l h
  refine w111 rfl rfl _ ?_
  simp [s111]
  refine hq.len H l h _ ?_
  have w1 : ((l.size : Int)).tdiv 2 = ((l.size / 2 : Nat) : Int) := by rw [Int.tdiv_eq_ediv_of_nonneg (by omega)]; omega
  obtain ⟨m, hm⟩ : ∃ m, m = l.size / 2 := ⟨_, rfl⟩
  rw [← hm] at w1
  have w1' : ((l.size : Int)) / 2 = (m : Int) := by omega
  have w2 : IntKind.i64.wrap (m : Int) = m := wi (by omega) (by omega)
  have w3 : IntKind.i64.wrap ((m : Int) - 1) = (m : Int) - 1 := wi (by omega) (by omega)
  simp [w1, w1', w2, w3]
  refine l111_0 S (fun d e H' => ∃ l', InI lt a0 Q l d e H' l') m ⟨l, h, Same.refl _ _, HeapF.big (by omega), by omega, by simp, by simp, by simp⟩ ?_
  rintro d e H1 ⟨l1, hq1, hs, hi, hd, e0, e2, e3⟩
  have hsz := hs.size
  cases d with
  | zero =>
    simp [s111_0, e0, e2, e3]
    exact ⟨l1, hq1, hs.1, hi⟩
  | succ d =>
    have h1 : (0 : Int) ≤ ((d + 1 : Nat) : Int) - 1 := by omega
    have h2 : ((d + 1 : Nat) : Int) - 1 = (d : Int) := by omega
    have w4 : IntKind.i64.wrap ((d : Int) - 1) = (d : Int) - 1 := wi (by omega) (by omega)
    rw [h2] at e3
    simp [s111_0, e0, e2, e3]
    refine (down_t hq ho hq1 (lo := d) (n := l.size) (by omega) (by omega) hi.dinv).mono ?_
    rintro v H2 ⟨l2, hq2, hs2, hf⟩
    simp [e3, w4]
    exact ⟨d, by omega, l2, hq2, ⟨hs2.1.trans hs.1, fun k hk => (hs2.2 k hk).trans (hs.2 k hk)⟩, hf, by omega, by simp [e0], by simp [e2], by simp⟩
end
end Go.Proofs.Ytlboioplemlneaa.K
/- container/heap: what comes out is least; what is put in. -/
set_option maxRecDepth 100000
set_option maxHeartbeats 2000000
set_option linter.unusedVariables false
set_option linter.unusedSimpArgs false
set_option linter.unusedSectionVars false
namespace Go.Proofs.Ytlboioplemlneaa.K
open Go Go.Proofs
section
variable {α : Type} [Inhabited α]
/-- by Push and Pop, too -/
structure PQ2 (lt : α → α → Bool) (a0 : Value) (Q : Heap → Array α → Prop) (el : α → Value) (El : Heap → α → Prop) : Prop where
  pq : PQ lt a0 Q
  push : ∀ H l x, Q H l → El H x → l.size < 1000000 → ∀ K : Kv, (∀ v H', Q H' (l.push x) → K v H') → run S (.inv (.c a0) "Push" [.c (el x)]) [] H K
  pop : ∀ H l x, Q H (l.push x) → ∀ K : Kv, (∀ H', Q H' l → El H' x → K (el x) H') → run S (.inv (.c a0) "Pop" []) [] H K
variable {lt : α → α → Bool} {a0 : Value} {Q : Heap → Array α → Prop} {el : α → Value} {El : Heap → α → Prop} {H : Heap} {l : Array α}
theorem ix_push_lt {l : Array α} {x : α} {k : Nat} (h : k < l.size) : ix (l.push x) k = ix l k := by unfold ix; rw [Array.getElem?_push, if_neg (by omega)]
theorem ix_push_eq {l : Array α} {x : α} : ix (l.push x) l.size = x := by unfold ix; rw [Array.getElem?_push, if_pos rfl]; rfl
theorem ix_mem {l : Array α} {y : α} (h : y ∈ l) : ∃ k, k < l.size ∧ ix l k = y := by
  obtain ⟨k, hk, e⟩ := Array.mem_iff_getElem.1 h
  exact ⟨k, hk, ix_of (by rw [Array.getElem?_eq_getElem hk, e])⟩
theorem Pop_t (hq : PQ2 lt a0 Q el El) (ho : Ord lt) (h : Q H l) (h0 : 0 < l.size) (hf : HeapF lt l 0 l.size) :
    Wf S 113 [a0] H fun v H' => ∃ x l', v = el x ∧ El H' x ∧ Q H' l' ∧ (l'.push x).Perm l ∧ HeapF lt l' 0 l'.size ∧ ∀ y ∈ l', lt y x = false := by
  have hsm := hq.pq.small H l h
  refine w113 rfl rfl _ ?_
  simp [s113]
  refine hq.pq.len H l h _ ?_
  obtain ⟨n, hn⟩ : ∃ n, l.size = n + 1 := ⟨l.size - 1, by omega⟩
  have w1 : IntKind.i64.wrap ((l.size : Int) - 1) = (n : Int) := by rw [wi (by omega) (by omega)]; omega
  simp [w1]
  rw [hn] at hf
  refine hq.pq.swap H l 0 n (by omega) (by omega) h _ fun v H1 h1 => ?_
  have hd := hf.cutD (by omega : n < l.size)
  refine (down_t hq.pq ho h1 (lo := 0) (n := n) (by rw [Array.size_swap]; omega) (by omega) hd).mono ?_
  rintro v H2 ⟨l2, hq2, hs, hf2⟩
  have hsz := hs.size
  rw [Array.size_swap] at hsz
  obtain ⟨l3, x, rfl⟩ := Array.exists_push_of_size_eq_add_one (by omega : l2.size = n + 1)
  have hn3 : l3.size = n := by rw [Array.size_push] at hsz; omega
  have hx : x = ix l 0 := by
    have := hs.2 n (Nat.le_refl _)
    have e1 : ix (l3.push x) n = x := by rw [← hn3]; exact ix_push_eq
    rw [e1, ix_swap] at this
    rw [this]
    by_cases e : n = 0
    · rw [if_pos e, e]
    · rw [if_neg e, if_pos rfl]
  have hp : (l3.push x).Perm l := hs.1.trans (Array.swap_perm _ _)
  refine hq.pop H2 l3 x hq2 _ fun H3 hq3 hel => ?_
  refine ⟨x, rfl, hel, l3, hq3, hp, fun k k0 k1 k2 => ?_, fun y hy => ?_⟩
  · have := hf2 k k0 (by omega) k2
    rw [ix_push_lt k1, ix_push_lt (by omega)] at this
    exact this
  · have hy : y ∈ l := (Array.Perm.mem_iff hp).1 (Array.mem_push.2 (.inl hy))
    obtain ⟨k, hk, rfl⟩ := ix_mem hy
    rw [hx]
    exact hf.least ho k (by omega)
theorem Push_t (hq : PQ2 lt a0 Q el El) (ho : Ord lt) (h : Q H l) (hf : HeapF lt l 0 l.size) {x : α} (hx : El H x) (hsz : l.size < 1000000) :
    Wf S 114 [a0, el x] H fun v H' => ∃ l', Q H' l' ∧ l'.Perm (l.push x) ∧ HeapF lt l' 0 l'.size := by
  refine w114 rfl rfl _ _ ?_
  simp [s114]
  refine hq.push H l x h hx hsz _ fun v H1 h1 => ?_
  refine hq.pq.len H1 _ h1 _ ?_
  have w1 : IntKind.i64.wrap (((l.push x).size : Int) - 1) = (l.size : Int) := by rw [Array.size_push, wi (by omega) (by omega)]; omega
  have w1' : IntKind.i64.wrap ((l.size : Int) + 1 - 1) = (l.size : Int) := by rw [wi (by omega) (by omega)]; omega
  have w2 : IntKind.i64.wrap (l.size : Int) = (l.size : Int) := wi (by omega) (by omega)
  simp [w1', w2]
  have hu := hf.pushU (x := x) rfl
  rw [show l.size + 1 = (l.push x).size from (Array.size_push ..).symm] at hu
  refine (up_t hq.pq ho h1 (j := l.size) (by rw [Array.size_push]; omega) hu).mono ?_
  rintro v H2 ⟨l2, hq2, hs, hf2⟩
  exact ⟨l2, hq2, hs.1, hs.size ▸ hf2⟩
end
end Go.Proofs.Ytlboioplemlneaa.K
/- A tree of codes as it lies in memory; which of two nodes is the lighter one. -/
set_option maxRecDepth 100000
set_option maxHeartbeats 2000000
set_option linter.unusedVariables false
set_option linter.unusedSimpArgs false
namespace Go.Proofs.Ytlboioplemlneaa.K
open Go Go.Proofs
inductive T where
  | leaf (w s : Nat)
  | two (o : Nat) (l r : T)
  deriving Inhabited
def T.w : T → Nat
  | .leaf w _ => w
  | .two _ l r => l.w + r.w
def T.o : T → Nat
  | .leaf _ s => s
  | .two o _ _ => o
/-- a node that lies at b -/
def Nd (H : Heap) (b : Nat) : T → Prop
  | .leaf w s => H.get b = .cells [.int .i64 w, .int .i64 s, .int .i64 s, .pointer none, .pointer none] 124 true
  | .two o l r => ∃ bl br, H.get b = .cells [.int .i64 ((l.w + r.w : Nat) : Int), .int .i64 o, .int .i64 (-1), .pointer (some ⟨bl, 0, none⟩), .pointer (some ⟨br, 0, none⟩)] 124 true ∧ Nd H bl l ∧ Nd H br r
theorem Nd.get {H : Heap} {b : Nat} {t : T} (h : Nd H b t) : ∃ s l r, H.get b = .cells [.int .i64 t.w, .int .i64 t.o, s, l, r] 124 true := by
  cases t with
  | leaf w s => exact ⟨_, _, _, h⟩
  | two o l r => obtain ⟨bl, br, h1, _⟩ := h; exact ⟨_, _, _, h1⟩
/-- all nodes stand as they stood -/
def KN (H H' : Heap) : Prop := ∀ k cs, H.get k = .cells cs 124 true → H'.get k = H.get k
theorem KN.refl (H : Heap) : KN H H := fun _ _ _ => rfl
theorem KN.trans {A B C : Heap} (h : KN A B) (h' : KN B C) : KN A C := fun k cs hk => (h' k cs ((h k cs hk).trans hk)).trans (h k cs hk)
theorem KN.kp {H H' : Heap} (h : Kp H.next H H') : KN H H' := fun k cs hk => h.2 k (lt_cells hk)
theorem KN.put {H : Heap} {q : Nat} {cs0 : List Value} {t0 : TypeId} {rw0 : Bool} {x : Blk} (hq : H.get q = .cells cs0 t0 rw0) (ht : t0 ≠ 124) : KN H (H.put q x) := fun k cs hk => by
  refine get_put_ne ?_
  rintro rfl
  rw [hq] at hk
  cases hk
  exact ht rfl
theorem Nd.kn {H H' : Heap} (hk : KN H H') : ∀ {t : T} {b : Nat}, Nd H b t → Nd H' b t
  | .leaf w s, b, h => (hk b _ h).trans h
  | .two o l r, b, h => by
    obtain ⟨bl, br, h1, h2, h3⟩ := h
    exact ⟨bl, br, (hk b _ h1).trans h1, Nd.kn hk h2, Nd.kn hk h3⟩
/-- a node and where it lies -/
structure Nt where
  b : Nat
  t : T
  deriving Inhabited
def ltN (x y : Nt) : Bool := decide (x.t.w < y.t.w) || (decide (x.t.w = y.t.w) && decide (x.t.o < y.t.o))
theorem ltN_ord : Ord ltN := ⟨fun x y h => by
    simp only [ltN, Bool.or_eq_true, Bool.and_eq_true, decide_eq_true_eq, Bool.or_eq_false_iff, Bool.and_eq_false_iff, decide_eq_false_iff_not] at *
    omega, fun x y z h1 h2 => by
    simp only [ltN, Bool.or_eq_true, Bool.and_eq_true, decide_eq_true_eq, Bool.or_eq_false_iff, Bool.and_eq_false_iff, decide_eq_false_iff_not] at *
    omega⟩
theorem ltN_w {x y : Nt} (h : ltN y x = false) : x.t.w ≤ y.t.w := by
  simp only [ltN, Bool.or_eq_false_iff, decide_eq_false_iff_not] at h
  omega
def cmpI (x y : Int) : Int := if x < y then -1 else if y < x then 1 else 0
section
variable {H : Heap}
theorem isNaN_t (x : Int) : Wf S 137 [.int .i64 x] H fun v H' => H' = H ∧ v = .bool false := by
  refine w137 rfl rfl _ ?_
  simp [s137]
theorem Compare_t (x y : Int) : Wf S 124 [.int .i64 x, .int .i64 y] H fun v H' => H' = H ∧ v = .int .i64 (cmpI x y) := by
  refine w124 rfl rfl _ _ ?_
  simp [s124]
  refine (isNaN_t x).mono ?_
  rintro v H1 ⟨rfl, rfl⟩
  try simp
  refine (isNaN_t y).mono ?_
  rintro v H1 ⟨rfl, rfl⟩
  by_cases h1 : x < y
  · simp [h1, cmpI]
  · by_cases h2 : y < x
    · simp [h1, h2, cmpI]
    · simp [h1, h2, cmpI]
theorem Or_t {b : Nat} {x y : Int} (h : H.get b = .cells [.int .i64 x, .int .i64 y] 3 true) : Wf S 167 [.slice (some ⟨b, 0, none⟩) 2 2] H fun v H' => H' = H ∧ v = .int .i64 (if x = 0 then y else x) := by
  have w1 : IntKind.i64.wrap 1 = 1 := by decide
  have w2 : IntKind.i64.wrap 2 = 2 := by decide
  refine w167 rfl rfl _ ?_
  simp [s167]
  refine u167_0 S ?_
  by_cases hx : x = 0
  · subst hx
    simp [s167_0, addOff, h, w1, w2]
    refine u167_0 S ?_
    by_cases hy : y = 0
    · subst hy
      simp [s167_0, addOff, h, w1, w2]
      refine u167_0 S ?_
      simp [s167_0, addOff, h, w1, w2]
    · simp [s167_0, addOff, h, hy, w1, w2]
  · simp [s167_0, addOff, h, hx]
end
end Go.Proofs.Ytlboioplemlneaa.K
/- Codes of unlike lengths: whether lengths are whole, by the program and by the document. -/
set_option maxRecDepth 100000
set_option maxHeartbeats 2000000
set_option linter.unusedVariables false
set_option linter.unusedSimpArgs false
namespace Go.Proofs.Ytlboioplemlneaa.K
open Go Go.Proofs
section
variable {H : Heap} {a : Option Addr} {c : Nat} {l : List Int}
theorem Whole_t (hl : Iv H a l) (hm : (l.length : Int) ≤ 9223372036854775807) : Wf S 61 [.slice a l.length c] H fun v H' => H' = H ∧ v = .bool (wholeB l) := by
  refine w61 rfl rfl _ ?_
  simp [s61]
  refine (right_t hl hm).mono ?_
  rintro v H1 ⟨rfl, rfl⟩
  by_cases hr : rightB l = true
  · have hlen := right_len hr
    have hall := right_all hr
    simp [hr]
    refine l61_0 S (fun d e H' => ∃ i : Nat, i ≤ l.length ∧ d = l.length - i ∧ H' = H1 ∧ e 3 = .int .i64 (2048 - sumTo (taken l) i) ∧ e 4 = .int .i64 (cntP l i) ∧ e 5 = .bool (oneAt l i) ∧ e 11 = .slice a l.length c ∧ e 12 = .int .i64 l.length ∧ e 13 = .int .i64 i) l.length ⟨0, by omega, by omega, rfl, by simp [sumTo], by simp [cntP], by simp [oneAt], by simp, by simp, by simp⟩ ?_
    rintro d e H' ⟨i, hi, rfl, rfl, e3, e4, e5, e11, e12, e13⟩
    by_cases h3 : i < l.length
    · obtain ⟨b, o, cs, rw, rfl, hg, hc⟩ := hl (by omega)
      obtain ⟨x, hx⟩ : ∃ x, l[i]? = some x := ⟨_, List.getElem?_eq_getElem h3⟩
      have hcx := hc i x hx
      have hax := at0_of hx
      have hxb := hall i
      rw [hax] at hxb
      have hw : IntKind.i64.wrap ((i : Int) + 1) = (i : Int) + 1 := wi (by omega) (by omega)
      have htb := tot_bd (l := l) i fun k _ => (hall k).2
      have hcb := cntP_bd l i
      by_cases g1 : 0 < x
      · have hpl : part x ≤ 1024 := part_le (by omega)
        have hpp := part_pos x
        have hw2 : IntKind.i64.wrap (11 - x) = 11 - x := wi (by omega) (by omega)
        have hw3 : IntKind.i64.wrap (cntP l i + 1) = cntP l i + 1 := wi (by omega) (by omega)
        have hw4 : IntKind.i64.wrap (2048 - sumTo (taken l) i - part x) = 2048 - sumTo (taken l) i - part x := wi (by omega) (by omega)
        have hsh := shl_part hxb.1 hxb.2
        have hn : ¬ (11 - x < 0) := by omega
        have hn2 : ¬ 11 < x := by omega
        simp only [Int.one_mul] at hsh
        simp [s61_0, e3, e4, e5, e11, e12, e13, h3, addOff, hg, hcx, g1, hw, hw2, hw3, kb_shl, hn, hn2, hsh, hw4]
        refine ⟨l.length - (i + 1), by omega, i + 1, by omega, rfl, ?_, ?_, ?_, by simp⟩
        · simp only [sumTo, taken, hax, g1, if_true]; omega
        · simp [cntP, hax, g1]
        · simp [oneAt, hax, g1]
      · simp [s61_0, e3, e4, e5, e11, e12, e13, h3, addOff, hg, hcx, g1, hw]
        refine ⟨l.length - (i + 1), by omega, i + 1, by omega, rfl, ?_, ?_, ?_, by simp⟩
        · simp [sumTo, taken, hax, g1]
        · simp [cntP, hax, g1]
        · simp [oneAt, hax, g1]
    · have h5 : i = l.length := by omega
      subst h5
      have hwp := whole_prog hr
      have hw : wholeB l = (decide (total l = 2048) || (decide (cntP l l.length = 1) && decide (total l = 1024))) := by simp only [wholeB, hr, Bool.true_and]
      rw [← hwp] at hw
      have ht : sumTo (taken l) l.length = total l := rfl
      by_cases q1 : 2048 - total l = 0
      · simp [s61_0, e3, e4, e5, e12, e13, ht, q1, hw]
      · by_cases q2 : cntP l l.length = 1
        · simp [s61_0, e3, e4, e5, e12, e13, ht, q1, q2, hw]
        · simp [s61_0, e3, e4, e5, e12, e13, ht, q1, q2, hw]
  · have : wholeB l = false := by simp [wholeB, hr]
    simp [hr, this]
theorem rWhole_t (hl : Iv H a l) (hm : (l.length : Int) ≤ 9223372036854775807) : Wf S 22 [.slice a l.length c] H fun v H' => H' = H ∧ v = .bool (wholeB l) := by
  refine w22 rfl rfl _ ?_
  simp [s22]
  refine (rright_t hl hm).mono ?_
  rintro v H1 ⟨rfl, rfl⟩
  by_cases hr : rightB l = true
  · have hlen := right_len hr
    have hall := right_all hr
    simp [hr]
    refine l22_0 S (fun d e H' => ∃ i : Nat, i ≤ l.length ∧ d = l.length - i ∧ H' = H1 ∧ e 0 = .slice a l.length c ∧ e 3 = .int .i64 (sumTo (taken l) i) ∧ e 4 = .int .i64 (cntP l i) ∧ e 5 = .int .i64 i) l.length ⟨0, by omega, by omega, rfl, by simp, by simp [sumTo], by simp [cntP], by simp⟩ ?_
    rintro d e H' ⟨i, hi, rfl, rfl, e0, e3, e4, e5⟩
    by_cases h3 : i < l.length
    · obtain ⟨b, o, cs, rw, rfl, hg, hc⟩ := hl (by omega)
      obtain ⟨x, hx⟩ : ∃ x, l[i]? = some x := ⟨_, List.getElem?_eq_getElem h3⟩
      have hcx := hc i x hx
      have hax := at0_of hx
      have hxb := hall i
      rw [hax] at hxb
      have hw : IntKind.i64.wrap ((i : Int) + 1) = (i : Int) + 1 := wi (by omega) (by omega)
      have htb := tot_bd (l := l) i fun k _ => (hall k).2
      have hcb := cntP_bd l i
      by_cases g1 : 0 < x
      · have hpl : part x ≤ 1024 := part_le (by omega)
        have hpp := part_pos x
        have hw2 : IntKind.i64.wrap (11 - x) = ((11 - x).toNat : Int) := by rw [wi (by omega) (by omega)]; omega
        have hw3 : IntKind.i64.wrap (cntP l i + 1) = cntP l i + 1 := wi (by omega) (by omega)
        have hw4 : IntKind.i64.wrap (sumTo (taken l) i + part x) = sumTo (taken l) i + part x := wi (by omega) (by omega)
        simp only [s22_0, e0, e3, e4, e5]
        simp [h3, addOff, hg, hcx, g1, e0, e3, e4, e5]
        rw [hw2]
        refine (Size_t H' (11 - x).toNat (by omega)).mono ?_
        rintro v H2 ⟨rfl, rfl⟩
        have hpe : p2 (11 - x).toNat = part x := rfl
        simp [e3, e4, e5, hpe, hw, hw3, hw4]
        refine ⟨l.length - (i + 1), by omega, i + 1, by omega, rfl, ?_, ?_, by simp⟩
        · simp [sumTo, taken, hax, g1]
        · simp [cntP, hax, g1]
      · simp [s22_0, e0, e3, e4, e5, h3, addOff, hg, hcx, g1, hw]
        refine ⟨l.length - (i + 1), by omega, i + 1, by omega, rfl, ?_, ?_, by simp⟩
        · simp [sumTo, taken, hax, g1]
        · simp [cntP, hax, g1]
    · have h5 : i = l.length := by omega
      subst h5
      have hw : wholeB l = (decide (total l = 2048) || (decide (cntP l l.length = 1) && decide (total l = 1024))) := by simp only [wholeB, hr, Bool.true_and]
      have ht : sumTo (taken l) l.length = total l := rfl
      by_cases q1 : total l = 2048
      · simp [s22_0, e0, e3, e4, e5, ht, q1, hw]
      · by_cases q2 : cntP l l.length = 1
        · simp [s22_0, e0, e3, e4, e5, ht, q1, q2, hw]
        · simp [s22_0, e0, e3, e4, e5, ht, q1, q2, hw]
  · have : wholeB l = false := by simp [wholeB, hr]
    simp [hr, this]
end
end Go.Proofs.Ytlboioplemlneaa.K
/- Codes of unlike lengths: the codes, by the program and by the document. -/
set_option maxRecDepth 100000
set_option maxHeartbeats 2000000
set_option linter.unusedVariables false
set_option linter.unusedSimpArgs false
namespace Go.Proofs.Ytlboioplemlneaa.K
open Go Go.Proofs
theorem ite_iff {p q : Prop} [Decidable p] [Decidable q] {x y : Int} (h1 : p → q) (h2 : q → p) : (if p then x else y) = if q then x else y := by
  by_cases hp : p
  · rw [if_pos hp, if_pos (h1 hp)]
  · rw [if_neg hp, if_neg fun hq => hp (h2 hq)]
def ints (l : List Int) : List Value := l.map (.int .i64)
/-- what is laid so far: of the symbols as long as n, the first s -/
def laidAt (l : List Int) (n : Nat) (s : Nat) : List Int := (List.range l.length).map fun k => if 0 < at0 l k ∧ (at0 l k < n ∨ at0 l k = n ∧ k < s) then codeOf l k else 0
def codes (l : List Int) : List Int := (List.range l.length).map (codeOf l)
theorem laidAt_len (l : List Int) (n s : Nat) : (laidAt l n s).length = l.length := by simp [laidAt]
theorem laidAt_get {l : List Int} {n s k : Nat} (hk : k < l.length) : (laidAt l n s)[k]? = some (if 0 < at0 l k ∧ (at0 l k < n ∨ at0 l k = n ∧ k < s) then codeOf l k else 0) := by
  simp [laidAt, hk]
theorem laidAt_succ {l : List Int} {n s : Nat} (hs : s < l.length) (hn : 0 < n) : laidAt l n (s + 1) = if at0 l s = n then (laidAt l n s).set s (codeAt l n s) else laidAt l n s := by
  apply List.ext_getElem?
  intro k
  by_cases hk : k < l.length
  · rw [laidAt_get hk]
    by_cases he : at0 l s = n
    · rw [if_pos he, List.getElem?_set]
      by_cases h : s = k
      · subst h
        rw [if_pos rfl, if_pos (show s < (laidAt l n s).length by rw [laidAt_len]; exact hs)]
        rw [if_pos (show 0 < at0 l s ∧ (at0 l s < n ∨ at0 l s = n ∧ s < s + 1) by omega)]
        unfold codeOf
        rw [if_pos (show 0 < at0 l s by omega), he]; simp
      · rw [if_neg h, laidAt_get hk]
        congr 1
        exact ite_iff (fun hh => by omega) (fun hh => by omega)
    · rw [if_neg he, laidAt_get hk]
      congr 1
      by_cases h : k = s
      · subst h
        have : ¬ (at0 l k = n ∧ k < k + 1) := fun e => he e.1
        have h2 : ¬ (at0 l k = n ∧ k < k) := fun e => he e.1
        simp only [this, h2]
      · exact ite_iff (fun hh => by omega) (fun hh => by omega)
  · have h1 : l.length ≤ k := by omega
    rw [List.getElem?_eq_none (by rw [laidAt_len]; exact h1)]
    by_cases he : at0 l s = n
    · rw [if_pos he, List.getElem?_eq_none (by rw [List.length_set, laidAt_len]; exact h1)]
    · rw [if_neg he, List.getElem?_eq_none (by rw [laidAt_len]; exact h1)]
theorem laidAt_next (l : List Int) (n : Nat) : laidAt l (n + 1) 0 = laidAt l n l.length := by
  unfold laidAt
  refine List.map_congr_left fun k hk => ?_
  have hk' : k < l.length := by simpa using hk
  congr 1
  apply propext
  constructor
  · rintro ⟨h1, h2⟩; exact ⟨h1, by omega⟩
  · rintro ⟨h1, h2⟩; exact ⟨h1, by omega⟩
theorem laidAt_start (l : List Int) : laidAt l 1 0 = List.replicate l.length 0 := by
  apply List.ext_getElem?
  intro k
  by_cases hk : k < l.length
  · rw [laidAt_get hk, if_neg (by omega)]; simp [hk]
  · rw [List.getElem?_eq_none (by rw [laidAt_len]; omega), List.getElem?_eq_none (by simp; omega)]
theorem laidAt_end {l : List Int} (h : ∀ k, at0 l k ≤ 11) : laidAt l 12 0 = codes l := by
  apply List.ext_getElem?
  intro k
  by_cases hk : k < l.length
  · rw [laidAt_get hk]
    simp only [codes, List.getElem?_map, List.getElem?_range hk, Option.map_some]
    congr 1
    have := h k
    by_cases hp : 0 < at0 l k
    · rw [if_pos ⟨hp, by omega⟩]
    · rw [if_neg (by omega)]; unfold codeOf; rw [if_neg hp]
  · rw [List.getElem?_eq_none (by rw [laidAt_len]; omega), List.getElem?_eq_none (by simp [codes]; omega)]
theorem code_bd {l : List Int} (h : ∀ k, 0 ≤ at0 l k ∧ at0 l k ≤ 11) (hl : l.length ≤ 256) {n s : Nat} (h1 : 1 ≤ n) (h2 : n ≤ 11) (hs : s ≤ l.length) : 0 ≤ codeAt l n s ∧ codeAt l n s ≤ 262144 := by
  have he := codeAt_ahead (l := l) n h1 h2 s hs
  have ha := ahead_nonneg l n s
  have ht := ahead_total l n s
  have hb := tot_bd (l := l) l.length fun k _ => (h k).2
  have hp := part_pos (n : Int)
  have ht2 : total l = sumTo (taken l) l.length := rfl
  constructor
  · rcases Int.lt_or_le (codeAt l n s) 0 with h3 | h3
    · have : codeAt l n s * part n < 0 := Int.mul_neg_of_neg_of_pos h3 hp
      omega
    · exact h3
  · rcases Int.lt_or_le 262144 (codeAt l n s) with h3 | h3
    · have h4 : codeAt l n s * 1 ≤ codeAt l n s * part n := Int.mul_le_mul_of_nonneg_left (by omega) (by omega)
      omega
    · exact h3
/-- numbers in a block of their own -/
def Own (H : Heap) (b : Nat) (l : List Int) : Prop := H.get b = .cells (ints l) 3 true
section
variable {H : Heap} {a : Option Addr} {c : Nat} {l : List Int}
structure CI (N : Nat) (H0 : Heap) (a : Option Addr) (c : Nat) (l : List Int) (n s : Nat) (e : Fe) (H : Heap) : Prop where
  kp : Kp N H0 H
  own : Own H N (laidAt l n s)
  e0 : e 0 = .slice a l.length c
  e4 : e 4 = .slice (some ⟨N, 0, none⟩) l.length l.length
  e5 : e 5 = .int .i64 (codeAt l n s)
  e6 : e 6 = .int .i64 n
theorem codesIn_t {H0 : Heap} {N n : Nat} {e : Fe} {Q : Kx} (hl : Iv H0 a l) (hN : H0.next = N) (hr : rightB l = true) (h1 : 1 ≤ n) (h2 : n ≤ 11) (hc : CI N H0 a c l n 0 e H) (e19 : e 19 = .slice a l.length c) (e20 : e 20 = .int .i64 l.length) (e21 : e 21 = .int .i64 0)
    (hQ : ∀ e' H', CI N H0 a c l n l.length e' H' → Q (.exit 2) e' H') : WL S b70_1 e H Q := by
  have hlen := right_len hr
  have hall := right_all hr
  refine l70_1 S (fun d e H => ∃ s : Nat, s ≤ l.length ∧ d = l.length - s ∧ CI N H0 a c l n s e H ∧ e 19 = .slice a l.length c ∧ e 20 = .int .i64 l.length ∧ e 21 = .int .i64 s) l.length ⟨0, by omega, by omega, hc, e19, e20, e21⟩ ?_
  rintro d e H ⟨s, hs, rfl, ⟨hk, ho, e0, e4, e5, e6⟩, e19, e20, e21⟩
  by_cases h3 : s < l.length
  · obtain ⟨b, o, cs, rw, rfl, hg0, hcs⟩ := hl (by omega)
    have hg := (hk.2 b (by rw [← hN]; exact lt_cells hg0)).trans hg0
    obtain ⟨x, hx⟩ : ∃ x, l[s]? = some x := ⟨_, List.getElem?_eq_getElem h3⟩
    have hcx := hcs s x hx
    have hax := at0_of hx
    have hw : IntKind.i64.wrap ((s : Int) + 1) = (s : Int) + 1 := wi (by omega) (by omega)
    have hcb := code_bd hall hlen h1 h2 (show s ≤ l.length by omega)
    have hsu := laidAt_succ (n := n) h3 h1
    have hca : codeAt l n (s + 1) = codeAt l n s + if at0 l s = n then 1 else 0 := by
      cases n with
      | zero => omega
      | succ n => simp [codeAt]
    by_cases g : x = n
    · have hw2 : IntKind.i64.wrap (codeAt l n s + 1) = codeAt l n s + 1 := wi (by omega) (by omega)
      have hlt := lt_cells ho
      have hkst : kSt H (.pointer (some ⟨N, s, none⟩)) (.int .i64 (codeAt l n s)) = some (H.put N (.cells (ints (laidAt l n (s + 1))) 3 true)) := by
        have ho' : H.get N = .cells (ints (laidAt l n s)) 3 true := ho
        rw [hsu, if_pos (by rw [hax, g])]
        simp [kSt, ho', oneC, ints, laidAt_len, h3, List.map_set]
      simp [s70_1, e0, e4, e5, e6, e19, e20, e21, h3, addOff, hg, hcx, g, hw, hw2, hkst]
      refine ⟨l.length - (s + 1), by omega, s + 1, by omega, rfl, ⟨hk.trans (Kp.put (Nat.le_refl _)), get_put_eq hlt, by simp [e0], by simp [e4], ?_, by simp [e6]⟩, by simp⟩
      rw [hca, if_pos (by rw [hax, g])]; simp
    · simp [s70_1, e0, e4, e5, e6, e19, e20, e21, h3, addOff, hg, hcx, g, hw]
      refine ⟨l.length - (s + 1), by omega, s + 1, by omega, rfl, ⟨hk, ?_, by simp [e0], by simp [e4], ?_, by simp [e6]⟩, by simp⟩
      · rw [hsu, if_neg (by rw [hax]; exact g)]; exact ho
      · rw [hca, if_neg (by rw [hax]; exact g)]; simp [e5]
  · have h5 : s = l.length := by omega
    subst h5
    simp [s70_1, e20, e21]
    exact hQ _ _ ⟨hk, ho, by simp [e0], by simp [e4], by simp [e5], by simp [e6]⟩
/-- numbers, as a slice of a block of its own -/
theorem Codes_t {H : Heap} {a : Option Addr} {c : Nat} {l : List Int} (hl : Iv H a l) (hm : (l.length : Int) ≤ 9223372036854775807) :
    Wf S 70 [.slice a l.length c] H fun v H' => Kp H.next H H' ∧ ((wholeB l = false ∧ v = .tuple #[.slice none 0 0, .bool false]) ∨ (wholeB l = true ∧ ∃ b, v = .tuple #[.slice (some ⟨b, 0, none⟩) l.length l.length, .bool true] ∧ H.next ≤ b ∧ Own H' b (codes l))) := by
  refine w70 rfl rfl _ ?_
  simp [s70]
  refine (Whole_t hl hm).mono ?_
  rintro v H1 ⟨rfl, rfl⟩
  by_cases hw : wholeB l = true
  · have hr : rightB l = true := by simp only [wholeB, Bool.and_eq_true] at hw; exact hw.1
    have hlen := right_len hr
    have hall := right_all hr
    have m1 : (l.length : Int) ≤ 9223372036854775807 := by omega
    have m2 : 8 * (l.length : Int) ≤ 281474976710656 := by omega
    simp [hw, kMks, m1, m2]
    refine l70_0 S (fun d e H => ∃ n : Nat, 1 ≤ n ∧ n ≤ 12 ∧ d = 12 - n ∧ Kp H1.next H1 H ∧ Own H H1.next (laidAt l n 0) ∧ e 0 = .slice a l.length c ∧ e 4 = .slice (some ⟨H1.next, 0, none⟩) l.length l.length ∧ e 5 = .int .i64 (codeAt l n 0) ∧ e 6 = .int .i64 n) 11 ⟨1, by omega, by omega, by omega, Kp.push (Nat.le_refl _), ?_, by simp, by simp, by simp [codeAt], by simp⟩ ?_
    · unfold Own
      rw [get_last, laidAt_start]
      simp [ints, zeros]
    rintro d e H ⟨n, hn1, hn2, rfl, hk, ho, e0, e4, e5, e6⟩
    by_cases h11 : n ≤ 11
    · have h11' : (n : Int) ≤ 11 := by omega
      simp [s70_0, e0, e4, e5, e6, h11, h11']
      refine codesIn_t (N := H1.next) (H0 := H1) (n := n) (c := c) hl rfl hr hn1 h11 ⟨hk, ho, by simp [e0], by simp [e4], by simp [e5], by simp [e6]⟩ (by simp) (by simp) (by simp) ?_
      intro e' H' ⟨hk', ho', f0, f4, f5, f6⟩
      have hcb := code_bd hall hlen hn1 h11 (Nat.le_refl l.length)
      have hw1 : IntKind.i64.wrap ((n : Int) + 1) = (n : Int) + 1 := wi (by omega) (by omega)
      have hw2 : IntKind.i64.wrap (codeAt l n l.length * 2 ^ min 1 IntKind.i64.bits) = codeAt l n l.length * 2 := by
        have hb : min 1 IntKind.i64.bits = 1 := by decide
        rw [hb, Int.pow_one]; exact wi (by omega) (by omega)
      simp [f0, f4, f5, f6, kb_shl, hw1, hw2]
      refine ⟨12 - (n + 1), by omega, n + 1, by omega, by omega, rfl, hk', ?_, ?_, by omega⟩
      · rw [laidAt_next]; exact ho'
      · simp [codeAt]; omega
    · have h5 : n = 12 := by omega
      subst h5
      simp [s70_0, e4, e6, tup]
      refine ⟨hk, ?_⟩
      rw [← laidAt_end fun k => (hall k).2]; exact ho
  · have hw' : wholeB l = false := by simpa using hw
    simp [hw', tup]
    exact Kp.refl _ _
end
end Go.Proofs.Ytlboioplemlneaa.K
/- Reading numbers and texts from bytes: what the program's reader does. -/
set_option maxRecDepth 100000
set_option maxHeartbeats 2000000
set_option linter.unusedVariables false
set_option linter.unusedSimpArgs false
namespace Go.Proofs.Ytlboioplemlneaa.K
open Go Go.Proofs
/-- a reader: what is left, and whether it is bad -/
def RdB (l : Bytes) (bad : Bool) : Blk := .cells [.string (ofL l), .bool bad] 134 true
def Rd (H : Heap) (b : Nat) (l : Bytes) (bad : Bool) : Prop := H.get b = RdB l bad
theorem Rd.lt {H : Heap} {b : Nat} {l : Bytes} {bad : Bool} (h : Rd H b l bad) : b < H.next := lt_cells h
theorem rd_put {H : Heap} {b : Nat} {l : Bytes} {bad : Bool} (h : b < H.next) : Rd (H.put b (RdB l bad)) b l bad := get_put_eq h
section
variable {H : Heap} {b : Nat} {l : Bytes} {bad : Bool}
theorem curNew_t (l : Bytes) : Wf S 49 [.string (ofL l)] H fun v H' => v = .pointer (some ⟨H.next, 0, none⟩) ∧ H' = H.push (RdB l false) := by
  refine w49 rfl rfl _ ?_
  simp [s49, kFill, evPs, isTup, cellsL, wr, RdB]
theorem Bad_t (h : Rd H b l bad) : Wf S 101 [.pointer (some ⟨b, 0, none⟩)] H fun v H' => H' = H ∧ v = .bool bad := by
  refine w101 rfl rfl _ ?_
  have h' : H.get b = .cells [.string (ofL l), .bool bad] 134 true := h
  simp [s101, kEq, addOff, h']
theorem fail_t (h : Rd H b l bad) : Wf S 126 [.pointer (some ⟨b, 0, none⟩)] H fun v H' => H' = H.put b (RdB [] true) := by
  refine w126 rfl rfl _ ?_
  have h' : H.get b = .cells [.string (ofL l), .bool bad] 134 true := h
  have hlt := h.lt
  simp [s126, kEq, addOff, kSt, h', oneC, get_put_eq hlt, put_put, RdB, bs_ofL]
/-- what a reader gives of n bytes, and what it is then -/
def rawOut (l : Bytes) (bad : Bool) (n : Nat) : Bytes := if bad = true ∨ l.length < n then [] else l.take n
def rawL (l : Bytes) (bad : Bool) (n : Nat) : Bytes := if bad = true ∨ l.length < n then [] else l.drop n
def rawB (l : Bytes) (bad : Bool) (n : Nat) : Bool := bad || decide (l.length < n)
theorem Raw_t (h : Rd H b l bad) (n : Int) : Wf S 102 [.pointer (some ⟨b, 0, none⟩), .int .i64 n] H fun v H' => v = .string (ofL (rawOut l bad n.toNat)) ∧ H' = H.put b (RdB (rawL l bad n.toNat) (rawB l bad n.toNat)) := by
  refine w102 rfl rfl _ _ ?_
  have h' : H.get b = .cells [.string (ofL l), .bool bad] 134 true := h
  have hlt := h.lt
  have hmx : max n 0 = (n.toNat : Int) := by omega
  generalize n.toNat = k at hmx
  simp [s102, hmx]
  refine (Bad_t h).mono ?_
  rintro v H1 ⟨rfl, rfl⟩
  cases bad with
  | true =>
    simp
    refine (fail_t h).mono ?_
    rintro v H2 rfl
    simp [rawOut, rawL, rawB, bs_ofL]
  | false =>
    by_cases g : l.length < k
    · have g' : (l.length : Int) < k := by omega
      simp [addOff, h', ofL_size, g, g']
      refine (fail_t h).mono ?_
      rintro v H2 rfl
      simp [rawOut, rawL, rawB, bs_ofL, g]
    · have g' : ¬ (l.length : Int) < k := by omega
      have g2 : k ≤ l.length := by omega
      have g3 : (k : Int) ≤ l.length := by omega
      simp [addOff, h', ofL_size, g, g', s_upto, s_from, g2, g3, kSt, oneC]
      simp [rawOut, rawL, rawB, g, RdB]
theorem Rest_t (h : Rd H b l bad) : Wf S 57 [.pointer (some ⟨b, 0, none⟩)] H fun v H' => v = .string (ofL (if bad then [] else l)) ∧ H' = if bad then H else H.put b (RdB [] false) := by
  refine w57 rfl rfl _ ?_
  have h' : H.get b = .cells [.string (ofL l), .bool bad] 134 true := h
  simp [s57]
  refine (Bad_t h).mono ?_
  rintro v H1 ⟨rfl, rfl⟩
  cases bad with
  | true => simp [bs_ofL]
  | false =>
    simp [addOff, h', ofL_size]
    refine (Raw_t h _).mono ?_
    rintro v H2 ⟨rfl, rfl⟩
    simp [rawOut, rawL, rawB]
theorem size_t (H : Heap) (n : Int) : Wf S 105 [.int .i64 n] H fun v H' => H' = H ∧ v = .int .i64 (min (max n 0) 8) := by
  refine w105 rfl rfl _ ?_
  simp [s105]
theorem kb_or {k : IntKind} {a b : Int} : kBin .or (.int k a) (.int k b) = some (.int k (k.wrap (BitVec.ofInt k.bits a ||| BitVec.ofInt k.bits b).toNat)) := by simp [kBin, kInt]
theorem kb_and {k : IntKind} {a b : Int} : kBin .and (.int k a) (.int k b) = some (.int k (k.wrap (BitVec.ofInt k.bits a &&& BitVec.ofInt k.bits b).toNat)) := by simp [kBin, kInt]
theorem wu64 {x : Int} (h0 : 0 ≤ x) (h1 : x < 18446744073709551616) : IntKind.u64.wrap x = x := by
  simp [IntKind.wrap, IntKind.signed, IntKind.bits]; omega
/-- one byte, as a number; 0 if there is none -/
theorem Fixed1_t (h : Rd H b l bad) : Wf S 99 [.pointer (some ⟨b, 0, none⟩), .int .i64 1] H fun v H' => v = .int .u64 ((rawOut l bad 1).headD 0).toNat ∧ Rd H' b (rawL l bad 1) (rawB l bad 1) ∧ H.next ≤ H'.next ∧ ∀ k, k < H.next → k ≠ b → H'.get k = H.get k := by
  refine w99 rfl rfl _ _ ?_
  simp [s99]
  refine (size_t H 1).mono ?_
  rintro v H1 ⟨rfl, rfl⟩
  try simp
  refine (Raw_t h _).mono ?_
  rintro v H2 ⟨rfl, rfl⟩
  have e1 : (min (max 1 0) 8 : Int).toNat = 1 := by decide
  rw [e1]
  have hlt := h.lt
  have hrd := rd_put (l := rawL l bad 1) (bad := rawB l bad 1) hlt
  have hlen : (rawOut l bad 1).length ≤ 1 := by unfold rawOut; split <;> simp; omega
  rw [s_s2b (by unfold roomMax; omega)]
  have hold : ∀ k, k < H1.next → k ≠ b → (H1.put b (RdB (rawL l bad 1) (rawB l bad 1))).get k = H1.get k := fun k _ hk => get_put_ne hk
  have hnx : (H1.put b (RdB (rawL l bad 1) (rawB l bad 1))).next = H1.next := next_put
  generalize H1.put b (RdB (rawL l bad 1) (rawB l bad 1)) = H3 at *
  simp
  cases ho : rawOut l bad 1 with
  | nil =>
    refine u99_0 S ?_
    simp [s99_0]
    refine ⟨?_, by omega, fun k hk hkb => by rw [if_pos (by omega)]; exact hold k hk hkb⟩
    unfold Rd; rw [get_old (by omega)]; exact hrd
  | cons c cs =>
    have hcs : cs = [] := by rw [ho] at hlen; cases cs with | nil => rfl | cons _ _ => simp at hlen
    subst hcs
    have hz : IntKind.i64.wrap 0 = 0 := by decide
    have hmin : min 0 IntKind.u64.bits = 0 := by decide
    have hc : c.toNat < 256 := c.toNat_lt
    have hwu : IntKind.u64.wrap (c.toNat : Int) = c.toNat := wu64 (by omega) (by omega)
    have hor : IntKind.u64.wrap ((c.toNat : Int) % 2 ^ IntKind.u64.bits) = c.toNat := by
      have : ((c.toNat : Int) % 2 ^ IntKind.u64.bits) = c.toNat := by
        have : IntKind.u64.bits = 64 := rfl
        rw [this]; omega
      rw [this]; exact hwu
    have hw1 : IntKind.i64.wrap 1 = 1 := by decide
    refine u99_0 S ?_
    simp [s99_0, addOff, bvs, bv, kb_shl, kb_or, hz, hmin, hwu, hor, hw1]
    refine u99_0 S ?_
    simp [s99_0]
    refine ⟨?_, by omega, fun k hk hkb => by rw [if_pos (by omega)]; exact hold k hk hkb⟩
    unfold Rd; rw [get_old (by omega)]; exact hrd
end
end Go.Proofs.Ytlboioplemlneaa.K
/- Numbers that may be read, and cut. -/
set_option maxRecDepth 100000
set_option maxHeartbeats 2000000
set_option linter.unusedVariables false
set_option linter.unusedSimpArgs false
namespace Go.Proofs.Ytlboioplemlneaa.K
open Go Go.Proofs
/-- numbers that may be read, and cut -/
def Is (H : Heap) (v : Value) (l : List Int) : Prop := (v = .slice none 0 0 ∧ l = []) ∨ ∃ b o c cs rw, v = .slice (some ⟨b, o, none⟩) l.length c ∧ (c = capx ∨ l.length ≤ c) ∧ H.get b = .cells cs 3 rw ∧ ∀ (i : Nat) x, l[i]? = some x → cs[o + i]? = some (.int .i64 x)
theorem Is.kp {H H' : Heap} {v : Value} {l : List Int} (h : Is H v l) (hk : Kp H.next H H') : Is H' v l := by
  rcases h with h | ⟨b, o, c, cs, rw, h1, h2, h3, h4⟩
  · exact .inl h
  · exact .inr ⟨b, o, c, cs, rw, h1, h2, (hk.2 b (lt_cells h3)).trans h3, h4⟩
theorem Is.iv {H : Heap} {v : Value} {l : List Int} (h : Is H v l) : ∃ a c, v = .slice a l.length c ∧ Iv H a l := by
  rcases h with ⟨rfl, rfl⟩ | ⟨b, o, c, cs, rw, h1, h2, h3, h4⟩
  · exact ⟨none, 0, rfl, fun h => by simp at h⟩
  · exact ⟨_, _, h1, fun _ => ⟨b, o, cs, rw, rfl, h3, h4⟩⟩
theorem run_slc0 {S : Sys} {H : Heap} {K : Kv} {b o n c : Nat} {cs : List Value} {t : TypeId} {rw : Bool} {m : Nat} (hc : c = capx ∨ n ≤ c) (hg : H.get b = .cells cs t rw) (hm : m ≤ n) :
    run S (.slc t 1 (.c (.slice (some ⟨b, o, none⟩) n c)) none (some (.c (.int .i64 m)))) [] H K = K (.slice (some ⟨b, o, none⟩) m (if c = capx then capx else c)) H := by
  show oT ((kSlc H t 1 (.slice (some ⟨b, o, none⟩) n c) 0 (some (m : Int))).map (·, H)) K = _
  simp only [kSlc, hg, if_true, Option.getD_some, addOff]
  by_cases h : c = capx
  · subst h
    simp [hm]
  · have h2 : n ≤ c := hc.resolve_left h
    have h3 : (0 : Int) ≤ m ∧ (m : Int) ≤ c := by omega
    simp [h]
    split
    · rename_i h0
      simp
    · rename_i h0; omega
theorem run_slcF {S : Sys} {H : Heap} {K : Kv} {b o n c : Nat} {cs : List Value} {t : TypeId} {rw : Bool} {m : Nat} (hc : c = capx ∨ n ≤ c) (hg : H.get b = .cells cs t rw) (hm : m ≤ n) :
    run S (.slc t 1 (.c (.slice (some ⟨b, o, none⟩) n c)) (some (.c (.int .i64 m))) none) [] H K = K (.slice (some ⟨b, if c ≠ capx ∧ m = c then o else o + m, none⟩) (n - m) (if c = capx then capx else c - m)) H := by
  show oT ((kSlc H t 1 (.slice (some ⟨b, o, none⟩) n c) (m : Int) none).map (·, H)) K = _
  simp only [kSlc, hg, if_true, Option.getD_none, addOff]
  by_cases h : c = capx
  · subst h
    have h1 : (0 : Int) ≤ m ∧ (m : Int) ≤ n ∧ (n : Int) ≤ n := by omega
    rw [if_pos rfl, if_pos h1]
    have h2 : ((n : Int) - m).toNat = n - m := by omega
    simp [h2]
  · have h2 : n ≤ c := hc.resolve_left h
    have h3 : (0 : Int) ≤ m ∧ (m : Int) ≤ n ∧ (n : Int) ≤ c := by omega
    rw [if_neg h, if_pos h3]
    have h2 : ((n : Int) - m).toNat = n - m := by omega
    by_cases h4 : m = c
    · simp [h, h2, h4]
    · simp [h, h2, h4]
theorem Is.cut {S : Sys} {H : Heap} {v : Value} {l : List Int} (h : Is H v l) {m : Nat} (hm : m ≤ l.length) : ∃ v', Is H v' (l.drop m) ∧ ∀ K : Kv, run S (.slc 3 1 (.c v) (some (.c (.int .i64 m))) none) [] H K = K v' H := by
  rcases h with ⟨rfl, rfl⟩ | ⟨b, o, c, cs, rw, rfl, h2, h3, h4⟩
  · have : m = 0 := by simpa using hm
    subst this
    exact ⟨.slice none 0 0, .inl ⟨rfl, rfl⟩, fun K => rfl⟩
  · refine ⟨_, ?_, fun K => run_slcF h2 h3 hm⟩
    refine .inr ⟨b, _, _, cs, rw, by rw [List.length_drop], ?_, h3, fun i x hx => ?_⟩
    · rw [List.length_drop]
      by_cases hc : c = capx
      · exact .inl (if_pos hc)
      · rw [if_neg hc]; right
        have := h2.resolve_left hc
        omega
    · rw [List.getElem?_drop] at hx
      have hlt : m + i < l.length := by
        rcases Nat.lt_or_ge (m + i) l.length with h | h
        · exact h
        · rw [List.getElem?_eq_none h] at hx; cases hx
      have := h4 _ x hx
      have e : ¬ (c ≠ capx ∧ m = c) := by
        rintro ⟨q1, q2⟩
        have := h2.resolve_left q1
        omega
      rw [if_neg e]
      rw [← this]; congr 1; omega
/-- the same, told of all heaps in which the numbers stand -/
theorem Is.cut2 {S : Sys} {H : Heap} {v : Value} {l : List Int} (h : Is H v l) {m : Nat} (hm : m ≤ l.length) : ∃ v', ∀ H', Is H' v l → Is H' v' (l.drop m) ∧ ∀ K : Kv, run S (.slc 3 1 (.c v) (some (.c (.int .i64 m))) none) [] H' K = K v' H' := by
  obtain ⟨v', h1, h2⟩ := h.cut (S := S) hm
  refine ⟨v', fun H' h' => ?_⟩
  obtain ⟨v2, q1, q2⟩ := h'.cut (S := S) hm
  have : v2 = v' := by
    rcases h with ⟨rfl, rfl⟩ | ⟨b, o, c, cs, rw, rfl, r2, r3, r4⟩
    · have : m = 0 := by simpa using hm
      subst this
      have e1 := h2 fun v _ => v = v'
      have e2 := q2 fun v _ => v = v'
      have a1 : (run S (.slc 3 1 (.c (.slice none 0 0)) (some (.c (.int .i64 (0 : Nat)))) none) [] H fun v _ => v = v') = ((Value.slice none 0 0) = v') := rfl
      have a2 : (run S (.slc 3 1 (.c (.slice none 0 0)) (some (.c (.int .i64 (0 : Nat)))) none) [] H' fun v _ => v = v') = ((Value.slice none 0 0) = v') := rfl
      rw [a1] at e1
      rw [a2] at e2
      rw [← e2, e1]
    · rcases h' with ⟨e, _⟩ | ⟨b', o', c', cs', rw', e, s2, s3, s4⟩
      · cases e
      · simp only [Value.slice.injEq] at e
        obtain ⟨e1, _, e2⟩ := e
        cases e1
        subst e2
        have e1 := h2 fun v _ => v = v'
        have e2 := q2 fun v _ => v = v'
        rw [run_slcF r2 r3 hm] at e1
        rw [run_slcF s2 s3 hm] at e2
        rw [← e2, e1]
  rw [← this]
  exact ⟨q1, q2⟩
end Go.Proofs.Ytlboioplemlneaa.K
/- The program's heap of nodes is a heap. -/
set_option maxRecDepth 100000
set_option maxHeartbeats 2000000
set_option linter.unusedVariables false
set_option linter.unusedSimpArgs false
namespace Go.Proofs.Ytlboioplemlneaa.K
open Go Go.Proofs
theorem inv_ld {S : Sys} {H : Heap} {K : Kv} {t : TypeId} {v x : Value} {name : String} {f : FuncId} {args : List Opd} (hM : S.M t name = some (f, .ld)) (hx : kLd H v = some x) : run S (.inv (.c (.iface t v)) name args) [] H K = Wf S f (x :: args.map (Env.ev [])) H K := by
  simp only [run, Env.ev, hM, recvOf, hx]
theorem inv_as {S : Sys} {H : Heap} {K : Kv} {t : TypeId} {v : Value} {name : String} {f : FuncId} {args : List Opd} (hM : S.M t name = some (f, .as)) : run S (.inv (.c (.iface t v)) name args) [] H K = Wf S f (v :: args.map (Env.ev [])) H K := by
  simp only [run, Env.ev, hM, recvOf]
theorem kop_ld {H : Heap} {v : Value} : kop (.ld (.c v)) [] H = (kLd H v).map (·, H) := rfl
def ptrN (x : Nt) : Value := .pointer (some ⟨x.b, 0, none⟩)
/-- the nodes that lie in the heap at p -/
structure Qn (H0 HB : Heap) (p : Nat) (H : Heap) (l : Array Nt) : Prop where
  kp : Kp H0.next H0 H
  hp : H0.next ≤ p
  sm : l.size ≤ 1000000
  v : ∃ b c cs, H0.next ≤ b ∧ H.get p = .cells [.slice (some ⟨b, 0, none⟩) l.size c] 159 true ∧ (c = capx ∨ (c = 0 ∧ l.size = 0)) ∧ H.get b = .cells cs 120 true ∧ l.size ≤ cs.length ∧ ∀ (i : Nat) x, l[i]? = some x → cs[i]? = some (ptrN x)
  nd : ∀ x ∈ l, Nd H x.b x.t
  kn : KN HB H
def a0N (p : Nat) : Value := .iface 157 (.pointer (some ⟨p, 0, none⟩))
def elN (x : Nt) : Value := .iface 120 (ptrN x)
def ElN (H : Heap) (x : Nt) : Prop := Nd H x.b x.t
section
variable {H0 HB H : Heap} {p : Nat} {l : Array Nt}
theorem Qn.step {H' : Heap} (h : Qn H0 HB p H l) (hk : Kp H.next H H') : Qn H0 HB p H' l := by
  obtain ⟨h1, h2, h3, ⟨b, c, cs, q1, q2, q3, q4, q5, q6⟩, h5, h6⟩ := h
  exact ⟨h1.trans (hk.mono h1.1), h2, h3, ⟨b, c, cs, q1, (hk.2 p (lt_cells q2)).trans q2, q3, (hk.2 b (lt_cells q4)).trans q4, q5, q6⟩, fun x hx => (h5 x hx).kn (KN.kp hk), h6.trans (KN.kp hk)⟩
theorem Qn.node {i : Nat} (h : Qn H0 HB p H l) (hi : i < l.size) : Nd H (ix l i).b (ix l i).t := h.nd _ (by
  have := Array.mem_of_getElem? (ix_get hi)
  exact this)
/-- from here on all nodes are kept -/
theorem Qn.re (h : Qn H0 HB p H l) : Qn H0 H p H l := ⟨h.kp, h.hp, h.sm, h.v, h.nd, KN.refl H⟩
theorem Qn.of {HA : Heap} (h : Qn H0 HB p H l) (hk : KN HA HB) : Qn H0 HA p H l := ⟨h.kp, h.hp, h.sm, h.v, h.nd, hk.trans h.kn⟩
theorem len_q (h : Qn H0 HB p H l) (K : Kv) (hK : K (.int .i64 l.size) H) : run S (.inv (.c (a0N p)) "Len" []) [] H K := by
  obtain ⟨b, c, cs, q1, q2, q3, q4, q5, q6⟩ := h.v
  unfold a0N
  rw [inv_ld (f := 119) (x := .slice (some ⟨b, 0, none⟩) l.size c) rfl (by simp [q2])]
  refine w119 rfl rfl _ ?_
  simpa [s119] using hK
theorem less_q {i j : Nat} (h : Qn H0 HB p H l) (hi : i < l.size) (hj : j < l.size) (K : Kv) (hK : ∀ H', Qn H0 HB p H' l → K (.bool (ltN (ix l i) (ix l j))) H') : run S (.inv (.c (a0N p)) "Less" [.c (.int .i64 i), .c (.int .i64 j)]) [] H K := by
  obtain ⟨b, c, cs, q1, q2, q3, q4, q5, q6⟩ := h.v
  unfold a0N
  rw [inv_ld (f := 170) (x := .slice (some ⟨b, 0, none⟩) l.size c) rfl (by simp [q2])]
  have ci := q6 i _ (ix_get hi)
  have cj := q6 j _ (ix_get hj)
  obtain ⟨_, _, _, ni⟩ := (h.node hi).get
  obtain ⟨_, _, _, nj⟩ := (h.node hj).get
  generalize ix l i = x at *
  generalize ix l j = y at *
  refine w170 rfl rfl _ _ _ ?_
  simp [s170, hi, hj, addOff, q4, ci, cj, ni, nj, ptrN, Env.ev]
  refine (Compare_t _ _).mono ?_
  rintro v H1 ⟨rfl, rfl⟩
  simp [addOff, q4, ci, cj, ni, nj, ptrN, ck, veq, veq1, kop_ld]
  refine (Compare_t _ _).mono ?_
  rintro v H1 ⟨rfl, rfl⟩
  simp [kFill, evPs, isTup, cellsL, wr]
  refine (Or_t get_last).mono ?_
  rintro v H1 ⟨rfl, rfl⟩
  have hb : kBin .lss (.int .i64 (if cmpI x.t.w y.t.w = 0 then cmpI x.t.o y.t.o else cmpI x.t.w y.t.w)) (.int .i64 0) = some (.bool (ltN x y)) := by
    show some (Value.bool (decide _)) = _
    congr 2
    rw [Bool.eq_iff_iff, decide_eq_true_eq]
    simp only [ltN, cmpI, Bool.or_eq_true, Bool.and_eq_true, decide_eq_true_eq]
    split <;> split <;> omega
  have := hK _ (h.step (Kp.push (b := .cells [.int .i64 (cmpI x.t.w y.t.w), .int .i64 (cmpI x.t.o y.t.o)] 3 true) (Nat.le_refl _)))
  rw [hb]
  simp
  exact this
theorem swap_q {i j : Nat} (hi : i < l.size) (hj : j < l.size) (h : Qn H0 HB p H l) (K : Kv) (hK : ∀ v H', Qn H0 HB p H' (l.swap i j hi hj) → K v H') : run S (.inv (.c (a0N p)) "Swap" [.c (.int .i64 i), .c (.int .i64 j)]) [] H K := by
  obtain ⟨b, c, cs, q1, q2, q3, q4, q5, q6⟩ := h.v
  unfold a0N
  rw [inv_ld (f := 173) (x := .slice (some ⟨b, 0, none⟩) l.size c) rfl (by simp [q2])]
  have ci := q6 i _ (ix_get hi)
  have cj := q6 j _ (ix_get hj)
  have hic : i < cs.length := by omega
  have hjc : j < cs.length := by omega
  have hlt := lt_cells q4
  have s1 : kSt H (.pointer (some ⟨b, i, none⟩)) (ptrN (ix l j)) = some (H.put b (.cells (cs.set i (ptrN (ix l j))) 120 true)) := by
    simp [kSt, q4, hic, oneC, ptrN]
  have s2 : kSt (H.put b (.cells (cs.set i (ptrN (ix l j))) 120 true)) (.pointer (some ⟨b, j, none⟩)) (ptrN (ix l i)) = some (H.put b (.cells ((cs.set i (ptrN (ix l j))).set j (ptrN (ix l i))) 120 true)) := by
    simp [kSt, get_put_eq hlt, hjc, oneC, ptrN, put_put]
  have hn : Qn H0 HB p (H.put b (.cells ((cs.set i (ptrN (ix l j))).set j (ptrN (ix l i))) 120 true)) (l.swap i j hi hj) := by
    have hpb : p ≠ b := by
      rintro rfl
      rw [q2] at q4; simp at q4
    refine ⟨⟨by rw [next_put]; exact h.kp.1, fun k hk => (get_put_ne (by omega)).trans (h.kp.2 k hk)⟩, h.hp, by rw [Array.size_swap]; exact h.sm, ⟨b, c, _, q1, by rw [Array.size_swap, get_put_ne hpb]; exact q2, by rw [Array.size_swap]; exact q3, get_put_eq hlt, by rw [Array.size_swap]; simpa using q5, fun k x hx => ?_⟩, fun x hx => ?_, h.kn.trans (KN.put q4 (by decide))⟩
    · rw [Array.getElem?_swap] at hx
      have e1 : l[i]? = some l[i] := Array.getElem?_eq_getElem hi
      have e2 : l[j]? = some l[j] := Array.getElem?_eq_getElem hj
      have f1 : ix l i = l[i] := ix_of e1
      have f2 : ix l j = l[j] := ix_of e2
      rw [List.getElem?_set, List.getElem?_set, List.length_set, f1, f2]
      by_cases k1 : j = k
      · subst k1
        rw [if_pos rfl] at hx
        cases hx
        rw [if_pos rfl, if_pos hjc]
      · rw [if_neg k1] at hx
        rw [if_neg k1]
        by_cases k2 : i = k
        · subst k2
          rw [if_pos rfl] at hx
          cases hx
          rw [if_pos rfl, if_pos hic]
        · rw [if_neg k2] at hx
          rw [if_neg k2]
          exact q6 k x hx
    · have : x ∈ l := (Array.Perm.mem_iff (Array.swap_perm hi hj)).1 hx
      exact (h.nd x this).kn (KN.put q4 (by decide))
  refine w173 rfl rfl _ _ _ ?_
  simp [s173, hi, hj, addOff, q4, ci, cj, Env.ev, s1]
  rw [s2]
  simp
  exact hK _ _ hn
theorem pop_q {x : Nt} (h : Qn H0 HB p H (l.push x)) (K : Kv) (hK : ∀ H', Qn H0 HB p H' l → ElN H' x → K (elN x) H') : run S (.inv (.c (a0N p)) "Pop" []) [] H K := by
  obtain ⟨b, c, cs, q1, q2, q3, q4, q5, q6⟩ := h.v
  rw [Array.size_push] at q2 q3 q5
  have hc : c = capx := by omega
  subst hc
  have hsm := h.sm
  rw [Array.size_push] at hsm
  unfold a0N
  rw [inv_as (f := 171) rfl]
  have cx := q6 l.size x (by rw [Array.getElem?_push, if_pos rfl])
  have hlt := lt_cells q2
  have w1 : IntKind.i64.wrap (((l.size + 1 : Nat) : Int) - 1) = (l.size : Int) := by rw [wi (by omega) (by omega)]; omega
  have w1' : IntKind.i64.wrap ((l.size : Int) + 1 - 1) = (l.size : Int) := by rw [wi (by omega) (by omega)]; omega
  have hsl : ∀ {K : Kv}, run S (.slc 120 1 (.c (.slice (some ⟨b, 0, none⟩) (l.size + 1) capx)) none (some (.c (.int .i64 (l.size : Int))))) [] H K = K (.slice (some ⟨b, 0, none⟩) l.size capx) H := fun {K} => by
    rw [run_slc0 (.inl rfl) q4 (by omega)]; rfl
  have hpb : b ≠ p := by
    rintro rfl
    rw [q2] at q4; simp at q4
  have hn : Qn H0 HB p (H.put p (.cells [.slice (some ⟨b, 0, none⟩) l.size capx] 159 true)) l := by
    have hp := h.hp
    refine ⟨⟨by rw [next_put]; exact h.kp.1, fun k hk => (get_put_ne (by omega)).trans (h.kp.2 k hk)⟩, h.hp, by omega, ⟨b, capx, cs, q1, get_put_eq hlt, .inl rfl, (get_put_ne hpb).trans q4, by omega, fun k y hy => q6 k y ?_⟩, fun y hy => ?_, h.kn.trans (KN.put q2 (by decide))⟩
    · have := (Array.getElem?_eq_some_iff.1 hy).1
      rw [Array.getElem?_push, if_neg (by omega)]; exact hy
    · exact (h.nd y (Array.mem_push.2 (.inl hy))).kn (KN.put q2 (by decide))
  have hx : ElN (H.put p (.cells [.slice (some ⟨b, 0, none⟩) l.size capx] 159 true)) x := (h.nd x (Array.mem_push.2 (.inr rfl))).kn (KN.put q2 (by decide))
  have := hK _ hn hx
  refine w171 rfl rfl _ ?_
  have w2 : IntKind.i64.wrap (l.size : Int) = (l.size : Int) := wi (by omega) (by omega)
  simp [s171, q2, q4, addOff, w1, w1', w2, cx, hsl, kSt, oneC]
  exact ⟨by omega, this⟩
theorem app_q {x : Nt} (h : Qn H0 HB p H l) (hx : ElN H x) (hs : l.size < 1000000) : ∃ b c v' H2 H3, H.get p = .cells [.slice (some ⟨b, 0, none⟩) l.size c] 159 true ∧ kRow (H.push (.cells [ptrN x] 120 true)) 120 1 1 (some ⟨H.next, 0, none⟩) = some [ptrN x] ∧
    (H.push (.cells [ptrN x] 120 true)).get p = .cells [.slice (some ⟨b, 0, none⟩) l.size c] 159 true ∧
    kApp (H.push (.cells [ptrN x] 120 true)) 120 1 8 (.slice (some ⟨b, 0, none⟩) l.size c) 1 [ptrN x] = some (v', H2) ∧ kSt H2 (.pointer (some ⟨p, 0, none⟩)) v' = some H3 ∧ Qn H0 HB p H3 (l.push x) := by
  obtain ⟨b, c, cs, q1, q2, q3, q4, q5, q6⟩ := h.v
  have hp := h.hp
  have hkp := h.kp.1
  have hltp := lt_cells q2
  have hltb := lt_cells q4
  have hpb : p ≠ b := by
    rintro rfl
    rw [q2] at q4; simp at q4
  obtain ⟨H1, hH1⟩ : ∃ H1, H1 = H.push (.cells [ptrN x] 120 true) := ⟨_, rfl⟩
  have hk1 : Kp H.next H H1 := hH1 ▸ Kp.push (Nat.le_refl _)
  have g1 : H1.get b = .cells cs 120 true := (hk1.2 b hltb).trans q4
  have hrd : rd cs 0 l.size = some (cs.take l.size) := by
    unfold rd; rw [if_pos (by omega), List.drop_zero]
  -- the array behind
  have hap : ∃ H2, kApp H1 120 1 8 (.slice (some ⟨b, 0, none⟩) l.size c) 1 [ptrN x] = some (.slice (some ⟨H1.next, 0, none⟩) (l.size + 1) capx, H2) ∧ H2.next = H1.next + 1 ∧ H2.get H1.next = .cells (cs.take l.size ++ [ptrN x]) 120 true ∧ (∀ k, k < H1.next → k ≠ b → H2.get k = H1.get k) := by
    have hr : (l.size + 1) * 8 ≤ roomMax ∧ l.size + 1 ≤ roomMax := by unfold roomMax; omega
    rcases q3 with rfl | ⟨rfl, h0⟩
    · refine ⟨(H1.put b .dead).push (.cells (cs.take l.size ++ [ptrN x]) 120 true), ?_, by simp [next_put], ?_, fun k h1 h2 => ?_⟩
      · simp only [kApp, g1, hr, and_self, if_true, Nat.mul_one, hrd, Option.map_some, Nat.one_ne_zero, if_false]
      · have := get_last (H := H1.put b .dead) (b := .cells (cs.take l.size ++ [ptrN x]) 120 true)
        rw [next_put] at this; exact this
      · rw [get_old (by rw [next_put]; exact h1), get_put_ne h2]
    · have hx0 : ¬ (0 : Nat) = capx := by decide
      have hx1 : ¬ l.size + 1 ≤ 0 := by omega
      refine ⟨H1.push (.cells (cs.take l.size ++ [ptrN x]) 120 true), ?_, by simp, get_last, fun k h1 h2 => get_old h1⟩
      simp only [kApp, g1, hr, and_self, if_true, Nat.mul_one, hrd, Option.map_some, hx0, hx1, if_false]
  obtain ⟨H2, ha, hn2, hg2, hold⟩ := hap
  have hk12 := hk1.1
  have hgp : H2.get p = .cells [.slice (some ⟨b, 0, none⟩) l.size c] 159 true := by
    rw [hold p (by omega) hpb, hk1.2 p hltp]; exact q2
  have hkn : KN H (H2.put p (.cells [.slice (some ⟨H1.next, 0, none⟩) (l.size + 1) capx] 159 true)) := by
    refine ((KN.kp hk1).trans (B := H1) (C := H2) fun k cs' hk' => ?_).trans (KN.put hgp (by decide))
    refine hold k (lt_cells hk') ?_
    rintro rfl
    rw [g1] at hk'; simp at hk'
  have hn : Qn H0 HB p (H2.put p (.cells [.slice (some ⟨H1.next, 0, none⟩) (l.size + 1) capx] 159 true)) (l.push x) := by
    refine ⟨⟨by rw [next_put]; omega, fun k hk => ?_⟩, hp, by rw [Array.size_push]; omega, ⟨H1.next, capx, _, by omega, by rw [Array.size_push]; exact get_put_eq (by omega), .inl rfl, (get_put_ne (by omega)).trans hg2, by rw [Array.size_push]; simp; omega, fun k y hy => ?_⟩, fun y hy => ?_, h.kn.trans hkn⟩
    · rw [get_put_ne (by omega), hold k (by omega) (by omega), hk1.2 k (by omega)]; exact h.kp.2 k hk
    · rw [Array.getElem?_push] at hy
      have hl : (cs.take l.size).length = l.size := by simp; omega
      by_cases hks : k = l.size
      · subst hks
        rw [if_pos rfl] at hy
        cases hy
        rw [List.getElem?_append_right (by omega), hl]; simp
      · rw [if_neg hks] at hy
        have hkl := (Array.getElem?_eq_some_iff.1 hy).1
        rw [List.getElem?_append_left (by omega), List.getElem?_take, if_pos hkl]
        exact q6 k y hy
    · rcases Array.mem_push.1 hy with hy | rfl
      · exact (h.nd y hy).kn hkn
      · exact Nd.kn hkn hx
  have hrow : kRow H1 120 1 1 (some ⟨H.next, 0, none⟩) = some [ptrN x] := by
    rw [hH1]; simp [kRow, rd]
  have hq2 : H1.get p = .cells [.slice (some ⟨b, 0, none⟩) l.size c] 159 true := (hk1.2 p hltp).trans q2
  have hst : kSt H2 (.pointer (some ⟨p, 0, none⟩)) (.slice (some ⟨H1.next, 0, none⟩) (l.size + 1) capx) = some (H2.put p (.cells [.slice (some ⟨H1.next, 0, none⟩) (l.size + 1) capx] 159 true)) := by
    simp [kSt, hgp, oneC]
  exact ⟨b, c, _, H2, _, q2, hH1 ▸ hrow, hH1 ▸ hq2, hH1 ▸ ha, hst, hn⟩
theorem push_q {x : Nt} (h : Qn H0 HB p H l) (hx : ElN H x) (hs : l.size < 1000000) (K : Kv) (hK : ∀ v H', Qn H0 HB p H' (l.push x) → K v H') : run S (.inv (.c (a0N p)) "Push" [.c (elN x)]) [] H K := by
  obtain ⟨b, c, v', H2, H3, q2, hrow, hq2, ha, hst, hn⟩ := app_q h hx hs
  unfold a0N elN
  rw [inv_as (f := 172) rfl]
  have htas : ∀ {K : Kv}, run S (.tas 120 (.pointer none) true (.c (.iface 120 (ptrN x)))) [] H K = K (.tuple #[ptrN x, .bool true]) H := fun {K} => rfl
  have hit : isTup (ptrN x) = false := rfl
  have hcl : cellsL (ptrN x) = [ptrN x] := rfl
  refine w172 rfl rfl _ _ ?_
  simp [s172, q2, addOff, Env.ev, kFill, evPs, hit, hcl, wr, htas]
  rw [hrow]
  simp only [Option.bind_some, ha, oT_some, hst]
  exact hK _ _ hn
/-- the program's heap of nodes -/
theorem nodes_q : PQ2 ltN (a0N p) (Qn H0 HB p) elN ElN :=
  ⟨⟨fun H l h K hK => len_q h K hK, fun H l i j h hi hj K hK => less_q h hi hj K hK, fun H l i j hi hj h K hK => swap_q hi hj h K hK, fun H l h => h.sm⟩, fun H l x h hx hs K hK => push_q h hx hs K hK, fun H l x h K hK => pop_q h K hK⟩
end
end Go.Proofs.Ytlboioplemlneaa.K
