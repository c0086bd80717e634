/- Notes looked through: the document's finding of a note. -/
import Derived.Test.YtccjanieihlpcaaPAudC
set_option maxRecDepth 100000
set_option maxHeartbeats 2000000
set_option linter.unusedVariables false
set_option linter.unusedSimpArgs false
namespace Go.Proofs.Ytccjanieihlpcaa.K
open Go Go.Proofs
theorem First_t {H : Heap} {a : Option Addr} {c : Nat} {l : List Nt} (hl : Ns H a l) (hm : l.length ≤ 1000) : Wf S 15 [.slice a l.length c] H fun v H' => Kp H.next H H' ∧ v = .tuple #[.agg (match fnds l l.length with | p :: _ => prc p | [] => prc (0, 0)).toArray, .bool (decide (0 < (fnds l l.length).length))] := by
  refine w15 rfl rfl _ ?_
  simp [s15]
  have hk1 : Kp H.next H (H.push (.cells [.int .i64 0, .int .i64 0] 28 true)) := Kp.push (Nat.le_refl _)
  have hg1 : (H.push (.cells [.int .i64 0, .int .i64 0] 28 true)).get H.next = _ := get_last
  have hn1 : (H.push (.cells [.int .i64 0, .int .i64 0] 28 true)).next = H.next + 1 := next_push
  have hl1 := hl.kp hk1
  generalize H.push (.cells [.int .i64 0, .int .i64 0] 28 true) = H1 at *
  refine (Check_t hl1 hm).mono ?_
  rintro v H2 ⟨hk2, hA⟩
  obtain ⟨a2, c2, rfl, h2⟩ := hA.len
  have hg2 := (hk2.2 _ (by omega)).trans hg1
  have hn2 := hk2.1
  have hK : Kp H.next H H2 := hk1.trans (hk2.mono (by omega))
  cases hf : fnds l l.length with
  | nil =>
    simp [hf, kFill, evPs, kStn, hg2, wr, get_put_eq (show H.next < H2.next by omega), kLdn, rd, prc, tup]
    exact hK.trans (Kp.put (Nat.le_refl _))
  | cons p ps =>
    rw [hf] at h2
    obtain ⟨b, rfl, hb⟩ := h2 (by simp)
    have h0 : (0 : Int) < (ps.length : Int) + 1 := by omega
    have h1 : ¬ (ps.length : Int) + 1 = 0 := by omega
    simp [hf, h0, h1, addOff, kLdn, hb, rd, prc, kStn, hg2, wr, get_put_eq (show H.next < H2.next by omega), tup]
    exact hK.trans (Kp.put (Nat.le_refl _))
theorem same_t {H : Heap} (m x : Nt) : Wf S 51 [.agg m.cells.toArray, .agg x.cells.toArray] H fun v H' => v = .bool (same m x) ∧ Kp H.next H H' := by
  refine w51 rfl rfl _ _ ?_
  by_cases h1 : m.rep = x.rep
  · by_cases h2 : m.gen = x.gen
    · simp [s51, isTup, cellsL, Nt.cells, addOff, h1, h2, same]
      exact (Kp.push (Nat.le_refl _)).trans (Kp.push (by simp))
    · simp [s51, isTup, cellsL, Nt.cells, addOff, h1, h2, same]
      exact (Kp.push (Nat.le_refl _)).trans (Kp.push (by simp))
  · simp [s51, isTup, cellsL, Nt.cells, addOff, h1, same]
    exact (Kp.push (Nat.le_refl _)).trans (Kp.push (by simp))
section
variable {H : Heap} {b c at_ bx : Nat} {l : List Nt} {x : Nt} {Q : Kx} {e : Fe}
theorem any_take_succ {p : Nt → Bool} {i : Nat} {m : Nt} (h : l[i]? = some m) : (l.take (i + 1)).any p = ((l.take i).any p || p m) := by
  rw [List.take_add_one, h]; simp
theorem any_of_take {p : Nt → Bool} {i n : Nat} (hi : i ≤ n) (h : (l.take i).any p = true) : (l.take n).any p = true := by
  rw [List.any_eq_true] at *
  obtain ⟨y, h1, h2⟩ := h
  exact ⟨y, List.mem_of_mem_take (i := i) (by rw [List.take_take, Nat.min_eq_left hi]; exact h1), h2⟩
def p2 (x m : Nt) : Bool := decide (m.rep = x.rep) && decide (x.gen < m.gen)
def p3 (x m : Nt) : Bool := decide (m.rep = x.rep) && (decide (m.gen = x.gen) && decide (m.kind = 3))
/-- what the document's Find reads, and its slots -/
structure RF (H : Heap) (b c at_ bx : Nat) (l : List Nt) (x : Nt) (e : Fe) : Prop where
  hb : H.get b = .cells (nts l) 74 false
  hx : H.get bx = .cells x.cells 74 true
  e0 : e 0 = .slice (some ⟨b, 0, none⟩) l.length c
  e1 : e 1 = .int .i64 at_
  e5 : e 5 = .pointer (some ⟨bx, 0, none⟩)
def No (p : Nt → Bool) (l : List Nt) : Prop := l.any p = false
theorem no_succ {p : Nt → Bool} {i : Nat} {m : Nt} (h : l[i]? = some m) (hn : No p (l.take i)) (hp : p m = false) : No p (l.take (i + 1)) := by
  unfold No at *
  rw [any_take_succ h, hn, hp]; rfl
theorem yes_at {p : Nt → Bool} {i n : Nat} {m : Nt} (h : l[i]? = some m) (hi : i < n) (hp : p m = true) : (l.take n).any p = true := by
  refine any_of_take (i := i + 1) (by omega) ?_
  rw [any_take_succ h, hp]; simp
theorem rf1 (hr : RF H b c at_ bx l x e) (hat : at_ < l.length) (hm : l.length ≤ 1000) (e6 : e 6 = .int .i64 0)
    (hret : ∀ e', e' 4 = .int .i64 2 → (l.take at_).any (p2 x) = true → Q .ret e' H)
    (hexit : ∀ e', RF H b c at_ bx l x e' → No (p2 x) (l.take at_) → Q (.exit 0) e' H) : WL S b14_2 e H Q := by
  refine l14_2 S (fun d e H' => ∃ i : Nat, i ≤ at_ ∧ d = at_ - i ∧ H' = H ∧ RF H b c at_ bx l x e ∧ e 6 = .int .i64 i ∧ No (p2 x) (l.take i)) at_ ⟨0, by omega, by omega, rfl, hr, e6, rfl⟩ ?_
  rintro d e H' ⟨i, hi, rfl, rfl, ⟨hb, hx, e0, e1, e5⟩, e6, hno⟩
  by_cases h3 : i < at_
  · obtain ⟨m, hm'⟩ : ∃ m, l[i]? = some m := ⟨_, List.getElem?_eq_getElem (by omega)⟩
    have hc1 : (nts l)[i * 5 + 1]? = _ := rows_get Nt.len hm' (show 1 < 5 by omega)
    have hc2 : (nts l)[i * 5 + 2]? = _ := rows_get Nt.len hm' (show 2 < 5 by omega)
    have hi2 : i < l.length := by omega
    have hw : IntKind.i64.wrap ((i : Int) + 1) = (i : Int) + 1 := wi (by omega) (by omega)
    by_cases g1 : m.rep = x.rep
    · by_cases g2 : x.gen < m.gen
      · simp [s14_2, e0, e1, e5, e6, h3, hi2, addOff, hb, hx, hc1, hc2, Nt.cells, g1, g2]
        exact hret _ (by simp) (yes_at hm' h3 (by simp [p2, g1, g2]))
      · simp [s14_2, e0, e1, e5, e6, h3, hi2, addOff, hb, hx, hc1, hc2, Nt.cells, g1, g2, hw]
        exact ⟨at_ - (i + 1), by omega, i + 1, by omega, rfl, ⟨hb, hx, by simp [e0], by simp [e1], by simp [e5]⟩, by simp, no_succ hm' hno (by simp [p2, g2])⟩
    · simp [s14_2, e0, e1, e5, e6, h3, hi2, addOff, hb, hx, hc1, hc2, Nt.cells, g1, hw]
      exact ⟨at_ - (i + 1), by omega, i + 1, by omega, rfl, ⟨hb, hx, by simp [e0], by simp [e1], by simp [e5]⟩, by simp, no_succ hm' hno (by simp [p2, g1])⟩
  · have h5 : i = at_ := by omega
    subst h5
    simp [s14_2, e1, e6]
    exact hexit _ ⟨hb, hx, by simp [e0], by simp [e1], by simp [e5]⟩ hno
theorem rf2 (hr : RF H b c at_ bx l x e) (hat : at_ < l.length) (hm : l.length ≤ 1000) (e7 : e 7 = .int .i64 0)
    (hret : ∀ e', e' 4 = .int .i64 3 → (l.take at_).any (p3 x) = true → Q .ret e' H)
    (hexit : ∀ e', RF H b c at_ bx l x e' → No (p3 x) (l.take at_) → Q (.exit 2) e' H) : WL S b14_1 e H Q := by
  refine l14_1 S (fun d e H' => ∃ i : Nat, i ≤ at_ ∧ d = at_ - i ∧ H' = H ∧ RF H b c at_ bx l x e ∧ e 7 = .int .i64 i ∧ No (p3 x) (l.take i)) at_ ⟨0, by omega, by omega, rfl, hr, e7, rfl⟩ ?_
  rintro d e H' ⟨i, hi, rfl, rfl, ⟨hb, hx, e0, e1, e5⟩, e7, hno⟩
  by_cases h3 : i < at_
  · obtain ⟨m, hm'⟩ : ∃ m, l[i]? = some m := ⟨_, List.getElem?_eq_getElem (by omega)⟩
    have hc0 : (nts l)[i * 5 + 0]? = _ := rows_get Nt.len hm' (show 0 < 5 by omega)
    simp only [Nat.add_zero] at hc0
    have hc1 : (nts l)[i * 5 + 1]? = _ := rows_get Nt.len hm' (show 1 < 5 by omega)
    have hc2 : (nts l)[i * 5 + 2]? = _ := rows_get Nt.len hm' (show 2 < 5 by omega)
    have hi2 : i < l.length := by omega
    have hw : IntKind.i64.wrap ((i : Int) + 1) = (i : Int) + 1 := wi (by omega) (by omega)
    by_cases g1 : m.rep = x.rep
    · by_cases g2 : m.gen = x.gen
      · by_cases g3 : m.kind = 3
        · simp [s14_1, e0, e1, e5, e7, h3, hi2, addOff, hb, hx, hc0, hc1, hc2, Nt.cells, g1, g2, g3]
          exact hret _ (by simp) (yes_at hm' h3 (by simp [p3, g1, g2, g3]))
        · simp [s14_1, e0, e1, e5, e7, h3, hi2, addOff, hb, hx, hc0, hc1, hc2, Nt.cells, g1, g2, g3, hw]
          exact ⟨at_ - (i + 1), by omega, i + 1, by omega, rfl, ⟨hb, hx, by simp [e0], by simp [e1], by simp [e5]⟩, by simp, no_succ hm' hno (by simp [p3, g3])⟩
      · simp [s14_1, e0, e1, e5, e7, h3, hi2, addOff, hb, hx, hc0, hc1, hc2, Nt.cells, g1, g2, hw]
        exact ⟨at_ - (i + 1), by omega, i + 1, by omega, rfl, ⟨hb, hx, by simp [e0], by simp [e1], by simp [e5]⟩, by simp, no_succ hm' hno (by simp [p3, g2])⟩
    · simp [s14_1, e0, e1, e5, e7, h3, hi2, addOff, hb, hx, hc0, hc1, hc2, Nt.cells, g1, hw]
      exact ⟨at_ - (i + 1), by omega, i + 1, by omega, rfl, ⟨hb, hx, by simp [e0], by simp [e1], by simp [e5]⟩, by simp, no_succ hm' hno (by simp [p3, g1])⟩
  · have h5 : i = at_ := by omega
    subst h5
    simp [s14_1, e1, e7]
    exact hexit _ ⟨hb, hx, by simp [e0], by simp [e1], by simp [e5]⟩ hno
theorem lastD_take {i : Nat} {m : Nt} (h : l[i]? = some m) : lastD (l.take (i + 1)) x = if same m x && decide (m.kind = 1) then some m.dict else lastD (l.take i) x := by
  rw [List.take_add_one, h]
  exact lastD_snoc _ _ _
/-- where the last one was made -/
def Made (l : List Nt) (x : Nt) (i : Nat) (k : Int) : Prop := (k = -1 ∧ lastD (l.take i) x = none) ∨ ∃ j : Nat, j < i ∧ k = j ∧ ∃ m, l[j]? = some m ∧ lastD (l.take i) x = some m.dict
def r2 (x m : Nt) : Bool := same m x && decide (m.kind = 2)
def I3 (H : Heap) (b c at_ bx : Nat) (l : List Nt) (x : Nt) (d : Nat) (e : Fe) (H' : Heap) : Prop := ∃ (i : Nat) (k : Int), i ≤ at_ ∧ d = at_ - i ∧ Kp H.next H H' ∧ RF H' b c at_ bx l x e ∧ e 10 = .int .i64 i ∧ e 8 = .int .i64 k ∧ Made l x i k ∧ e 9 = .bool ((l.take i).any (r2 x))
theorem rf3 (hr : RF H b c at_ bx l x e) (hat : at_ < l.length) (hm : l.length ≤ 1000) (e8 : e 8 = .int .i64 (-1)) (e9 : e 9 = .bool false) (e10 : e 10 = .int .i64 0)
    (hexit : ∀ e' H' k, Kp H.next H H' → RF H' b c at_ bx l x e' → e' 8 = .int .i64 k → Made l x at_ k → e' 9 = .bool ((l.take at_).any (r2 x)) → Q (.exit 4) e' H') : WL S b14_0 e H Q := by
  refine l14_0 S (I3 H b c at_ bx l x) at_ ⟨0, -1, by omega, by omega, Kp.refl _ _, hr, e10, e8, .inl ⟨rfl, rfl⟩, by simpa using e9⟩ ?_
  rintro d e H' ⟨i, k, hi, rfl, hk, ⟨hb, hx, e0, e1, e5⟩, e10, e8, hmd, e9⟩
  by_cases h3 : i < at_
  · obtain ⟨m, hm'⟩ : ∃ m, l[i]? = some m := ⟨_, List.getElem?_eq_getElem (by omega)⟩
    have hc0 : (nts l)[i * 5 + 0]? = _ := rows_get Nt.len hm' (show 0 < 5 by omega)
    simp only [Nat.add_zero] at hc0
    have hrd : rd (nts l) (i * 5) 5 = some m.cells := rows_rd Nt.len hm'
    have hrx : rd x.cells 0 5 = some x.cells := rfl
    have hi2 : i < l.length := by omega
    have hw : IntKind.i64.wrap ((i : Int) + 1) = (i : Int) + 1 := wi (by omega) (by omega)
    have hc0' : (nts l)[i * 5]? = some (.int .i64 m.kind) := hc0
    simp [s14_0, e0, e1, e5, e10, h3, hi2, addOff, kLdn, hb, hx, hrd, hrx]
    refine (same_t m x).mono ?_
    rintro v H2 ⟨rfl, hk2⟩
    have hb2 := (hk2.2 b (lt_cells hb)).trans hb
    have hx2 := (hk2.2 bx (lt_cells hx)).trans hx
    have hld := lastD_take (x := x) hm'
    have hany : (l.take (i + 1)).any (r2 x) = _ := any_take_succ hm'
    by_cases g1 : same m x = true
    · by_cases g2 : m.kind = 1
      · simp [g1, g2, e0, e1, e5, e10, h3, hi2, addOff, kLdn, hb2, hx2, hrd, hrx, hc0']
        refine (same_t m x).mono ?_
        rintro v H3 ⟨rfl, hk3⟩
        have hb3 := (hk3.2 b (lt_cells hb2)).trans hb2
        have hx3 := (hk3.2 bx (lt_cells hx2)).trans hx2
        simp [g1, g2, e0, e1, e5, e10, h3, hi2, addOff, hb3, hc0', hw]
        refine ⟨at_ - (i + 1), by omega, i + 1, (i : Int), by omega, rfl, (hk.trans (hk2.mono hk.1)).trans (hk3.mono (Nat.le_trans hk.1 hk2.1)), ⟨hb3, hx3, by simp [e0], by simp [e1], by simp [e5]⟩, by simp, by simp, .inr ⟨i, by omega, rfl, m, hm', by rw [hld]; simp [g1, g2]⟩, ?_⟩
        simp [hany, e9, r2, g2]
      · simp [g1, g2, e0, e1, e5, e10, h3, hi2, addOff, kLdn, hb2, hx2, hrd, hrx, hc0']
        refine (same_t m x).mono ?_
        rintro v H3 ⟨rfl, hk3⟩
        have hb3 := (hk3.2 b (lt_cells hb2)).trans hb2
        have hx3 := (hk3.2 bx (lt_cells hx2)).trans hx2
        have hK := (hk.trans (hk2.mono hk.1)).trans (hk3.mono (Nat.le_trans hk.1 hk2.1))
        have hmd' : Made l x (i + 1) k := by
          rcases hmd with ⟨h1, h2⟩ | ⟨j, h1, h2, m', h4, h5⟩
          · exact .inl ⟨h1, by rw [hld]; simp [g2, h2]⟩
          · exact .inr ⟨j, by omega, h2, m', h4, by rw [hld]; simp [g2, h5]⟩
        by_cases g3 : m.kind = 2
        · simp [g1, g2, g3, e0, e1, e5, e8, e10, h3, hi2, addOff, hb3, hc0', hw]
          refine ⟨at_ - (i + 1), by omega, i + 1, k, by omega, rfl, hK, ⟨hb3, hx3, by simp [e0], by simp [e1], by simp [e5]⟩, by simp, by simp [e8], hmd', ?_⟩
          simp [hany, r2, g1, g3]
        · simp [g1, g2, g3, e0, e1, e5, e8, e10, h3, hi2, addOff, hb3, hc0', hw]
          refine ⟨at_ - (i + 1), by omega, i + 1, k, by omega, rfl, hK, ⟨hb3, hx3, by simp [e0], by simp [e1], by simp [e5]⟩, by simp, by simp [e8], hmd', ?_⟩
          simp [hany, e9, r2, g3]
    · simp [g1, e0, e1, e5, e10, h3, hi2, addOff, kLdn, hb2, hx2, hrd, hrx, hc0']
      refine (same_t m x).mono ?_
      rintro v H3 ⟨rfl, hk3⟩
      have hb3 := (hk3.2 b (lt_cells hb2)).trans hb2
      have hx3 := (hk3.2 bx (lt_cells hx2)).trans hx2
      have hK := (hk.trans (hk2.mono hk.1)).trans (hk3.mono (Nat.le_trans hk.1 hk2.1))
      have hmd' : Made l x (i + 1) k := by
        rcases hmd with ⟨h1, h2⟩ | ⟨j, h1, h2, m', h4, h5⟩
        · exact .inl ⟨h1, by rw [hld]; simp [g1, h2]⟩
        · exact .inr ⟨j, by omega, h2, m', h4, by rw [hld]; simp [g1, h5]⟩
      simp [g1, e0, e1, e5, e8, e10, h3, hi2, addOff, hb3, hc0', hw]
      refine ⟨at_ - (i + 1), by omega, i + 1, k, by omega, rfl, hK, ⟨hb3, hx3, by simp [e0], by simp [e1], by simp [e5]⟩, by simp, by simp [e8], hmd', ?_⟩
      simp [hany, e9, r2, g1]
  · have h5 : i = at_ := by omega
    subst h5
    simp [s14_0, e1, e10]
    exact hexit _ _ k hk ⟨hb, hx, by simp [e0], by simp [e1], by simp [e5]⟩ (by simp [e8]) hmd (by simp [e9])
theorem refFind_t {H : Heap} {b c at_ : Nat} {l : List Nt} {x : Nt} (hb : H.get b = .cells (nts l) 74 false) (hx : l[at_]? = some x) (hm : l.length ≤ 1000) :
    Wf S 14 [.slice (some ⟨b, 0, none⟩) l.length c, .int .i64 at_] H fun v H' => v = .int .i64 (find (l.take at_) x) ∧ Kp H.next H H' := by
  refine w14 rfl rfl _ _ ?_
  have hat := (List.getElem?_eq_some_iff.1 hx).1
  have hrd : rd (nts l) (at_ * 5) 5 = some x.cells := rows_rd Nt.len hx
  have hk1 : Kp H.next H (H.push (.cells x.cells 74 true)) := Kp.push (Nat.le_refl _)
  have hg1 : (H.push (.cells x.cells 74 true)).get H.next = _ := get_last
  have hn1 : (H.push (.cells x.cells 74 true)).next = H.next + 1 := next_push
  have hb1 := (hk1.2 b (lt_cells hb)).trans hb
  simp [s14, hat, addOff, kLdn, hb, hrd, kStn, Nt.len, wr, put_push]
  have hd : List.drop 5 x.cells = [] := rfl
  try simp only [hd, List.append_nil]
  generalize H.push (.cells x.cells 74 true) = H1 at *
  by_cases hbd : bad x = true
  · have hf : find (l.take at_) x = 1 := by simp [find, hbd]
    have hc : x.kind < 1 ∨ (¬ x.kind < 1 ∧ 4 < x.kind) ∨ (¬ x.kind < 1 ∧ ¬ 4 < x.kind ∧ x.rep < 1) ∨ (¬ x.kind < 1 ∧ ¬ 4 < x.kind ∧ ¬ x.rep < 1 ∧ x.gen < 1) := by
      simp [bad] at hbd; omega
    rcases hc with g1 | ⟨g1, g2⟩ | ⟨g1, g2, g3⟩ | ⟨g1, g2, g3, g4⟩
    · simp [addOff, hg1, Nt.cells, g1, hf, hk1]
    · simp [addOff, hg1, Nt.cells, g1, g2, hf, hk1]
    · simp [addOff, hg1, Nt.cells, g1, g2, g3, hf, hk1]
    · simp [addOff, hg1, Nt.cells, g1, g2, g3, g4, hf, hk1]
  · have hc : ¬ x.kind < 1 ∧ ¬ 4 < x.kind ∧ ¬ x.rep < 1 ∧ ¬ x.gen < 1 := by
      simp [bad] at hbd; omega
    obtain ⟨g1, g2, g3, g4⟩ := hc
    have hg1' : H1.get H.next = .cells [.int .i64 x.kind, .int .i64 x.rep, .int .i64 x.gen, .int .i64 x.n, .string x.dict] 74 true := hg1
    simp [addOff, hg1', Nt.cells, g1, g2, g3, g4]
    refine rf1 (b := b) (c := c) (at_ := at_) (bx := H.next) (l := l) (x := x) ⟨hb1, hg1, by simp, by simp, by simp⟩ hat hm (by simp) ?_ ?_
    · intro e' h4 hy
      have hf : find (l.take at_) x = 2 := by
        have : (l.take at_).any (fun m => decide (m.rep = x.rep) && decide (x.gen < m.gen)) = true := hy
        simp only [find, hbd, this]; simp
      simp [h4, hf, hk1]
    intro e' hr hn2
    try simp
    refine rf2 (b := b) (c := c) (at_ := at_) (bx := H.next) (l := l) (x := x) ⟨hb1, hg1, by simp [hr.e0], by simp [hr.e1], by simp [hr.e5]⟩ hat hm (by simp) ?_ ?_
    · intro e' h4 hy
      have hf : find (l.take at_) x = 3 := by
        have h2 : (l.take at_).any (fun m => decide (m.rep = x.rep) && decide (x.gen < m.gen)) = false := hn2
        have : (l.take at_).any (fun m => decide (m.rep = x.rep) && (decide (m.gen = x.gen) && decide (m.kind = 3))) = true := hy
        simp only [find, hbd, h2, this]; simp
      simp [h4, hf, hk1]
    intro e2 hr2 hn3
    have hff : find (l.take at_) x = if x.kind = 2 then findB (l.take at_) x else 0 := by
      have h2 : (l.take at_).any (fun m => decide (m.rep = x.rep) && decide (x.gen < m.gen)) = false := hn2
      have h3 : (l.take at_).any (fun m => decide (m.rep = x.rep) && (decide (m.gen = x.gen) && decide (m.kind = 3))) = false := hn3
      simp only [find, hbd, h2, h3, findB]; simp
    by_cases g5 : x.kind = 2
    · simp [hr2.e5, addOff, hg1', g5]
      refine rf3 (b := b) (c := c) (at_ := at_) (bx := H.next) (l := l) (x := x) ⟨hb1, hg1, by simp [hr2.e0], by simp [hr2.e1], by simp [hr2.e5]⟩ hat hm (by simp) (by simp) (by simp) ?_
      intro e3 H2 k hk2 hr3 f8 hmd f9
      have hg2' : H2.get H.next = .cells [.int .i64 x.kind, .int .i64 x.rep, .int .i64 x.gen, .int .i64 x.n, .string x.dict] 74 true := hr3.hx
      have hK : Kp H.next H H2 := hk1.trans (hk2.mono (by omega))
      rw [hff, if_pos g5]
      rcases hmd with ⟨rfl, hld⟩ | ⟨j, hj, rfl, m, hm', hld⟩
      · simp [f8, findB, hld, hK]
      · have hc4 : (nts l)[j * 5 + 4]? = some (.string m.dict) := rows_get Nt.len hm' (show 4 < 5 by omega)
        have hj2 : j < l.length := by omega
        have hj0 : ¬ (j : Int) < 0 := by omega
        by_cases he : sneq m.dict x.dict = true
        · have he' : kStr .neq m.dict x.dict = some (.bool true) := by rw [← he]; rfl
          simp [f8, hj0, hr3.e0, hr3.e5, hj2, addOff, hr3.hb, hc4, hg2', kbn, he, findB, hld, hK]
        · have he' : kStr .neq m.dict x.dict = some (.bool false) := by rw [← Bool.eq_false_iff.mpr he]; rfl
          by_cases hrr : (l.take at_).any (r2 x) = true
          · have : ((l.take at_).any fun m => same m x && decide (m.kind = 2)) = true := hrr
            simp [f8, f9, hj0, hrr, hr3.e0, hr3.e5, hj2, addOff, hr3.hb, hc4, hg2', kbn, he, findB, hld, hK, this]
          · have : ¬ ((l.take at_).any fun m => same m x && decide (m.kind = 2)) = true := hrr
            simp only [findB, hld, he, this]
            simp [f8, f9, hj0, hrr, hr3.e0, hr3.e5, hj2, addOff, hr3.hb, hc4, hg2', kbn, he, hK]
    · simp [hr2.e5, addOff, hg1', g5, hff, hk1]
end
end Go.Proofs.Ytccjanieihlpcaa.K
