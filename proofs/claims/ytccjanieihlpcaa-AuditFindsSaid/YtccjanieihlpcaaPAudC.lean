/- Notes looked through: all findings, and the first one. -/
import Derived.Test.YtccjanieihlpcaaPAudB
set_option maxRecDepth 100000
set_option maxHeartbeats 2000000
set_option linter.unusedVariables false
set_option linter.unusedSimpArgs false
namespace Go.Proofs.Ytccjanieihlpcaa.K
open Go Go.Proofs
def prc (p : Int × Int) : List Value := [.int .i64 p.1, .int .i64 p.2]
def fnds (l : List Nt) : Nat → List (Int × Int)
  | 0 => []
  | i + 1 => fnds l i ++ match l[i]? with
    | some x => if find (l.take i) x = 0 then [] else [((i : Int), find (l.take i) x)]
    | none => []
theorem fnds_len (l : List Nt) : ∀ i, (fnds l i).length ≤ i
  | 0 => by simp [fnds]
  | i + 1 => by
    have := fnds_len l i
    simp only [fnds, List.length_append]
    split
    · split <;> simp <;> omega
    · simp; omega
/-- notes that may be read -/
def Ns (H : Heap) (a : Option Addr) (l : List Nt) : Prop := 0 < l.length → ∃ b, a = some ⟨b, 0, none⟩ ∧ H.get b = .cells (nts l) 74 false
theorem Ns.kp {H H' : Heap} {a : Option Addr} {l : List Nt} (h : Ns H a l) (hk : Kp H.next H H') : Ns H' a l := fun hp => by
  obtain ⟨b, h1, h2⟩ := h hp
  exact ⟨b, h1, (hk.2 b (lt_cells h2)).trans h2⟩
theorem Check_t {H : Heap} {a : Option Addr} {c : Nat} {l : List Nt} (hl : Ns H a l) (hm : l.length ≤ 1000) : Wf S 13 [.slice a l.length c] H fun v H' => Kp H.next H H' ∧ Acc 28 2 (H.next + 5) H'.next H' v (fnds l l.length).length ((fnds l l.length).flatMap prc) := by
  refine w13 rfl rfl _ ?_
  simp [s13]
  refine fresh_t.mono ?_
  rintro v H1 ⟨rfl, hS, hn, hk⟩
  refine l13_0 S (fun d e H2 => ∃ i : Nat, i ≤ l.length ∧ d = l.length - i ∧ Kp H.next H H2 ∧ H.next + 5 ≤ H2.next ∧ Seen H.next H2 (l.take i) ∧ e 4 = .pointer (some ⟨H.next + 4, 0, none⟩) ∧ e 9 = .slice a l.length c ∧ e 10 = .int .i64 l.length ∧ e 11 = .int .i64 i ∧ Acc 28 2 (H.next + 5) H2.next H2 (e 3) (fnds l i).length ((fnds l i).flatMap prc)) l.length ⟨0, by omega, by omega, hk, by omega, by simpa using hS, by simp, by simp, by simp, by simp, by simpa [fnds] using Acc.nil⟩ ?_
  rintro d e H2 ⟨i, hi, rfl, hk, hn, hS, e4, e9, e10, e11, hA⟩
  by_cases h3 : i < l.length
  · have h4 : (i : Int) < l.length := by omega
    obtain ⟨x, hx⟩ : ∃ x, l[i]? = some x := ⟨_, List.getElem?_eq_getElem h3⟩
    obtain ⟨b, rfl, hb⟩ := hl (by omega)
    have hb2 : H2.get b = _ := (hk.2 b (lt_cells hb)).trans hb
    have hrd : rd (nts l) (i * 5) 5 = some x.cells := rows_rd Nt.len hx
    have hw : IntKind.i64.wrap ((i : Int) + 1) = (i : Int) + 1 := wi (by omega) (by omega)
    have htk : l.take (i + 1) = l.take i ++ [x] := by rw [List.take_add_one, hx]; rfl
    simp [s13_0, e4, e9, e10, e11, h3, addOff, kLdn, hb2, hrd, kStn, Nt.len, wr, put_push]
    have hk1 : Kp H2.next H2 (H2.push (.cells x.cells 74 true)) := Kp.push (Nat.le_refl _)
    have hS1 := hS.kp (hk1.mono hn)
    have hg1 : (H2.push (.cells x.cells 74 true)).get H2.next = _ := get_last
    have hn1 : (H2.push (.cells x.cells 74 true)).next = H2.next + 1 := next_push
    have hA1 : Acc 28 2 (H.next + 5) H2.next (H2.push (.cells x.cells 74 true)) (e 3) (fnds l i).length ((fnds l i).flatMap prc) := hA.kp (fun b _ hb => hk1.2 b hb)
    have hd : List.drop 5 x.cells = [] := rfl
    try simp only [hd, List.append_nil]
    generalize H2.push (.cells x.cells 74 true) = H3 at *
    refine (find_t hS1 x).mono ?_
    rintro v H4 ⟨rfl, hk4⟩
    have hS4 := hS1.kp (hk4.mono (by omega))
    have hg4 : H4.get H2.next = _ := (hk4.2 _ (by omega)).trans hg1
    have hA4 := hA1.kp (H' := H4) (fun b _ hb => hk4.2 b (by omega))
    have hn4 := hk4.1
    have hrd4 : rd x.cells 0 5 = some x.cells := rfl
    have hK4 : Kp H.next H H4 := (hk.trans (hk1.mono (by omega))).trans (hk4.mono (by omega))
    by_cases hf : find (l.take i) x = 0
    · simp [hf, e4, kLdn, hg4, hrd4, e11, hw]
      refine (add_t hS4 x).mono ?_
      rintro _ H5 ⟨hS5, hn5, hk5⟩
      try simp [e11, hw]
      refine ⟨l.length - (i + 1), by omega, i + 1, by omega, rfl, ⟨by have := hK4.1; omega, fun k hk' => (hk5 k (by omega) (.inl hk')).trans (hK4.2 k hk')⟩, by omega, by rw [htk]; exact hS5, e9, e10, by omega, ?_⟩
      have hA5 := (hA4.kp (H' := H5) (fun b hb1 hb2 => hk5 b (by omega) (.inr hb1))).mono (show H2.next ≤ H5.next by omega)
      simpa [fnds, hx, hf] using hA5
    · have hlen := fnds_len l i
      obtain ⟨v', H5, hap, hA5, hn5, hk5⟩ := hA4.app (bytes := 16) (new := [.int .i64 i, .int .i64 (find (l.take i) x)]) (by omega) (by omega) rfl (by unfold roomMax; omega)
      have hS5 := hS4.kp (H' := H5) ⟨by omega, fun k hk' => hk5 k (by omega) (.inl hk')⟩
      have hg5 : H5.get H2.next = _ := (hk5 _ (by omega) (.inr (Nat.le_refl _))).trans hg4
      simp [hf, e4, kFill, evPs, isTup, cellsL, wr, kRow, rd, hap, kLdn, hg5, Nt.len]
      refine (add_t hS5 x).mono ?_
      rintro _ H6 ⟨hS6, hn6, hk6⟩
      try simp [e11, hw]
      refine ⟨l.length - (i + 1), by omega, i + 1, by omega, rfl, ⟨by have := hK4.1; omega, fun k hk' => (hk6 k (by have := hK4.1; omega) (.inl hk')).trans ((hk5 k (by have := hK4.1; omega) (.inl (by omega))).trans (hK4.2 k hk'))⟩, by omega, by rw [htk]; exact hS6, e9, e10, by omega, ?_⟩
      have hA6 := (hA5.kp (H' := H6) (fun b hb1 hb2 => hk6 b hb2 (.inr hb1))).mono (show H5.next ≤ H6.next by omega)
      simpa [fnds, hx, hf, prc] using hA6
  · have h5 : i = l.length := by omega
    subst h5
    simp [s13_0, e10, e11]
    exact ⟨hk, hA⟩
end Go.Proofs.Ytccjanieihlpcaa.K
