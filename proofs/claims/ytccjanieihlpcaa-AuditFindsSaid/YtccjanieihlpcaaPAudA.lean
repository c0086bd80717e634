/- Notes looked through: what is known of those ahead, and a note's finding by that. -/
import Derived.Test.YtccjanieihlpcaaKAudSh
import Derived.Test.YtccjanieihlpcaaKMap
import Derived.Test.YtccjanieihlpcaaKLib
import Derived.WalkKit
import Derived.ProofKit
import Derived.OpenShut
set_option maxRecDepth 100000
set_option maxHeartbeats 2000000
set_option linter.unusedVariables false
set_option linter.unusedSimpArgs false
namespace Go.Proofs.Ytccjanieihlpcaa.K
open Go Go.Proofs
def S : Sys := ⟨F, M, fun _ => none⟩
theorem S_ok : SysOK Go.Proofs.Try.prog S := ⟨M_ok, by kernel_rfl, F_ok, fun f p h => by cases h⟩
structure Nt where
  kind : Int
  rep : Int
  gen : Int
  n : Int
  dict : ByteArray
def Nt.cells (x : Nt) : List Value := [.int .i64 x.kind, .int .i64 x.rep, .int .i64 x.gen, .int .i64 x.n, .string x.dict]
theorem Nt.len (x : Nt) : x.cells.length = 5 := rfl
def nts (l : List Nt) : List Value := l.flatMap Nt.cells
def same (a b : Nt) : Bool := decide (a.rep = b.rep) && (decide (a.gen = b.gen) && decide (a.n = b.n))
def lastD (l : List Nt) (x : Nt) : Option ByteArray := l.foldl (fun acc m => if same m x && decide (m.kind = 1) then some m.dict else acc) none
def bad (x : Nt) : Bool := decide (x.kind < 1) || (decide (4 < x.kind) || (decide (x.rep < 1) || decide (x.gen < 1)))
def sneq (a b : ByteArray) : Bool := !(a.toList == b.toList)
theorem kbn {a b : ByteArray} : kBin .neq (.string a) (.string b) = some (.bool (sneq a b)) := rfl
/-- the finding of a note behind these -/
def find (l : List Nt) (x : Nt) : Int :=
  if bad x then 1
  else if l.any (fun m => decide (m.rep = x.rep) && decide (x.gen < m.gen)) then 2
  else if l.any (fun m => decide (m.rep = x.rep) && (decide (m.gen = x.gen) && decide (m.kind = 3))) then 3
  else if x.kind = 2 then
    match lastD l x with
    | none => 4
    | some d => if sneq d x.dict then 5 else if l.any (fun m => same m x && decide (m.kind = 2)) then 6 else 0
  else 0
def gmax (l : List Nt) (r : Int) : Int := l.foldl (fun acc m => if m.rep = r then max acc m.gen else acc) 0
theorem gmax_any (l : List Nt) (r g : Int) (hg : 1 ≤ g) : g < gmax l r ↔ l.any (fun m => decide (m.rep = r) && decide (g < m.gen)) = true := by
  have key : ∀ (l : List Nt) (a : Int), g < l.foldl (fun acc m => if m.rep = r then max acc m.gen else acc) a ↔ g < a ∨ l.any (fun m => decide (m.rep = r) && decide (g < m.gen)) = true := by
    intro l
    induction l with
    | nil => intro a; simp
    | cons m l ih =>
      intro a
      simp only [List.foldl_cons, ih, List.any_cons, Bool.or_eq_true, Bool.and_eq_true, decide_eq_true_eq]
      by_cases h : m.rep = r
      · simp only [h, if_true, true_and]
        constructor
        · rintro (h1 | h1)
          · by_cases h2 : g < a
            · exact .inl h2
            · exact .inr (.inl (by omega))
          · exact .inr (.inr h1)
        · rintro (h1 | h1 | h1)
          · exact .inl (by omega)
          · exact .inl (by omega)
          · exact .inr h1
      · simp [h]
  have := key l 0
  rw [gmax, this]
  constructor
  · rintro (h | h)
    · omega
    · exact h
  · exact .inr
/-- what is known of the notes so far, at N -/
structure Seen (N : Nat) (H : Heap) (l : List Nt) : Prop where
  s : H.get (N + 4) = .cells [.map (some N), .map (some (N + 1)), .map (some (N + 2)), .map (some (N + 3))] 121 true
  gens : ∃ f, KM (α := Int) (.s .int) (fun a => .int .i64 a) H N f ∧ ∀ r, (f r).getD (.int .i64 0) = .int .i64 (gmax l r)
  failed : ∃ f, KM (α := Int × Int) (.agg [.int, .int]) (fun a => .agg #[.int .i64 a.1, .int .i64 a.2]) H (N + 1) f ∧ ∀ r g, (f (r, g)).getD (.bool false) = .bool (l.any fun m => decide (m.rep = r) && (decide (m.gen = g) && decide (m.kind = 3)))
  made : ∃ f, KM (α := Int × Int × Int) (.agg [.int, .int, .int]) (fun a => .agg #[.int .i64 a.1, .int .i64 a.2.1, .int .i64 a.2.2]) H (N + 2) f ∧ ∀ x : Nt, f (x.rep, x.gen, x.n) = (lastD l x).map .string
  read : ∃ f, KM (α := Int × Int × Int) (.agg [.int, .int, .int]) (fun a => .agg #[.int .i64 a.1, .int .i64 a.2.1, .int .i64 a.2.2]) H (N + 3) f ∧ ∀ x : Nt, (f (x.rep, x.gen, x.n)).getD (.bool false) = .bool (l.any fun m => same m x && decide (m.kind = 2))
theorem Seen.kp {N : Nat} {H H' : Heap} {l : List Nt} (h : Seen N H l) (hk : Kp (N + 5) H H') : Seen N H' l := by
  obtain ⟨f1, a1, b1⟩ := h.gens
  obtain ⟨f2, a2, b2⟩ := h.failed
  obtain ⟨f3, a3, b3⟩ := h.made
  obtain ⟨f4, a4, b4⟩ := h.read
  exact ⟨(hk.2 _ (by omega)).trans h.s, ⟨f1, a1.get (hk.2 _ (by omega)), b1⟩, ⟨f2, a2.get (hk.2 _ (by omega)), b2⟩, ⟨f3, a3.get (hk.2 _ (by omega)), b3⟩, ⟨f4, a4.get (hk.2 _ (by omega)), b4⟩⟩
theorem of_t {H : Heap} (x : Nt) : Wf S 81 [.agg x.cells.toArray] H fun v H' => v = .agg #[.int .i64 x.rep, .int .i64 x.gen, .int .i64 x.n] ∧ Kp H.next H H' := by
  refine w81 rfl rfl _ ?_
  simp [s81, isTup, cellsL, Nt.cells, addOff, kFill, evPs, wr, kStn, kLdn, rd, put_push]
  exact (Kp.push (Nat.le_refl _)).trans (Kp.push (by simp))
theorem fresh_t {H : Heap} : Wf S 48 [] H fun v H' => v = .pointer (some ⟨H.next + 4, 0, none⟩) ∧ Seen H.next H' [] ∧ H'.next = H.next + 5 ∧ Kp H.next H H' := by
  refine w48 rfl rfl ?_
  simp [s48, kFill, evPs, isTup, cellsL, wr]
  refine ⟨⟨by simp, ⟨_, KM.empty (c := 0) (by simp; repeat (first | rw [if_pos (by omega)] | rw [if_neg (by omega)])), fun r => rfl⟩, ⟨_, KM.empty (c := 0) (by simp; repeat (first | rw [if_pos (by omega)] | rw [if_neg (by omega)])), fun r g => rfl⟩, ⟨_, KM.empty (c := 0) (by simp), fun x => rfl⟩, ⟨_, KM.empty (c := 0) (by simp), fun x => rfl⟩⟩, ?_⟩
  exact ((((Kp.push (Nat.le_refl _)).trans (Kp.push (by simp))).trans (Kp.push (by simp; omega))).trans (Kp.push (by simp; omega))).trans (Kp.push (by simp; omega))
section
variable {N : Nat} {H : Heap} {l : List Nt} {K : Kv}
theorem lk_gens (h : Seen N H l) (r : Int) : run S (.lkp (.s .int) (.int .i64 0) false (.c (.map (some N))) (.c (.int .i64 r))) [] H K = K (.int .i64 (gmax l r)) H := by
  obtain ⟨f, h1, h2⟩ := h.gens
  have := h1.lkp enc_int (S := S) r (.int .i64 0) (e := []) (K := K)
  rw [h2] at this
  exact this
theorem lk_failed (h : Seen N H l) (r g : Int) : run S (.lkp (.agg [.int, .int]) (.bool false) false (.c (.map (some (N + 1)))) (.c (.agg #[.int .i64 r, .int .i64 g]))) [] H K = K (.bool (l.any fun m => decide (m.rep = r) && (decide (m.gen = g) && decide (m.kind = 3)))) H := by
  obtain ⟨f, h1, h2⟩ := h.failed
  have := h1.lkp enc_int2 (S := S) (r, g) (.bool false) (e := []) (K := K)
  rw [h2] at this
  exact this
theorem lk_made (h : Seen N H l) (x : Nt) : run S (.lkp (.agg [.int, .int, .int]) (.string (bs [])) true (.c (.map (some (N + 2)))) (.c (.agg #[.int .i64 x.rep, .int .i64 x.gen, .int .i64 x.n]))) [] H K = K (.tuple #[((lastD l x).map Value.string).getD (.string (bs [])), .bool (lastD l x).isSome]) H := by
  obtain ⟨f, h1, h2⟩ := h.made
  have := h1.lkp2 enc_int3 (S := S) (x.rep, x.gen, x.n) (.string (bs [])) (e := []) (K := K)
  rw [h2] at this
  simpa using this
theorem lk_read (h : Seen N H l) (x : Nt) : run S (.lkp (.agg [.int, .int, .int]) (.bool false) false (.c (.map (some (N + 3)))) (.c (.agg #[.int .i64 x.rep, .int .i64 x.gen, .int .i64 x.n]))) [] H K = K (.bool (l.any fun m => same m x && decide (m.kind = 2))) H := by
  obtain ⟨f, h1, h2⟩ := h.read
  have := h1.lkp enc_int3 (S := S) (x.rep, x.gen, x.n) (.bool false) (e := []) (K := K)
  rw [h2] at this
  exact this
def findB (l : List Nt) (x : Nt) : Int :=
  match lastD l x with
  | none => 4
  | some d => if sneq d x.dict then 5 else if l.any (fun m => same m x && decide (m.kind = 2)) then 6 else 0
theorem block_t (hS : Seen N H l) (x : Nt) : Wf S 80 [.pointer (some ⟨N + 4, 0, none⟩), .agg x.cells.toArray] H fun v H' => v = .int .i64 (findB l x) ∧ Kp H.next H H' := by
  refine w80 rfl rfl _ _ ?_
  have hlt := lt_cells hS.s
  have hk1 : Kp H.next H (H.push (.cells [.int .i64 x.kind, .int .i64 x.rep, .int .i64 x.gen, .int .i64 x.n, .string x.dict] 74 true)) := Kp.push (Nat.le_refl _)
  have hS1 := hS.kp (hk1.mono (by omega))
  have hg1 : (H.push (.cells [.int .i64 x.kind, .int .i64 x.rep, .int .i64 x.gen, .int .i64 x.n, .string x.dict] 74 true)).get H.next = _ := get_last
  have hn1 : (H.push (.cells [.int .i64 x.kind, .int .i64 x.rep, .int .i64 x.gen, .int .i64 x.n, .string x.dict] 74 true)).next = H.next + 1 := next_push
  simp only [s80, run_box, isTup, Nt.cells, cellsL, List.toList_toArray, Bool.false_eq_true, if_false]
  generalize H.push (.cells [.int .i64 x.kind, .int .i64 x.rep, .int .i64 x.gen, .int .i64 x.n, .string x.dict] 74 true) = H1 at *
  have hs1 := hS1.s
  simp [addOff, hs1, kLdn, hg1, rd]
  refine (of_t x).mono ?_
  rintro v H2 ⟨rfl, hk2⟩
  have hS2 := hS1.kp (hk2.mono (by omega))
  have hs2 := hS2.s
  have hg2 := (hk2.2 _ (by omega)).trans hg1
  simp [ck, kop, Env.ev, kLd, hs2, veq, veq1, lk_made hS2]
  cases hd : lastD l x with
  | none =>
    simp [findB, hd]
    exact hk1.trans (hk2.mono (by omega))
  | some d =>
    by_cases he : sneq d x.dict = true
    · have he' : kStr .neq d x.dict = some (.bool true) := by rw [← he]; rfl
      simp [hg2, kBin, he', findB, hd, he]
      exact hk1.trans (hk2.mono (by omega))
    · have he' : kStr .neq d x.dict = some (.bool false) := by rw [← Bool.eq_false_iff.mpr he]; rfl
      simp [hg2, kBin, he', addOff, hs2, kLdn, rd]
      refine (of_t x).mono ?_
      rintro v H3 ⟨rfl, hk3⟩
      have hn2 := hk2.1
      have hS3 := hS2.kp (hk3.mono (by omega))
      have hs3 := hS3.s
      simp [ck, kop, Env.ev, kLd, hs3, veq, veq1, lk_read hS3]
      have hK : Kp H.next H H3 := (hk1.trans (hk2.mono (by omega))).trans (hk3.mono (by omega))
      by_cases hr : (l.any fun m => same m x && decide (m.kind = 2)) = true
      · simp [hr, findB, hd, he, hK]
      · simp [hr, findB, hd, he, hK]
theorem find_t (hS : Seen N H l) (x : Nt) : Wf S 49 [.pointer (some ⟨N + 4, 0, none⟩), .agg x.cells.toArray] H fun v H' => v = .int .i64 (find l x) ∧ Kp H.next H H' := by
  refine w49 rfl rfl _ _ ?_
  have hlt := lt_cells hS.s
  have hk1 : Kp H.next H (H.push (.cells [.int .i64 x.kind, .int .i64 x.rep, .int .i64 x.gen, .int .i64 x.n, .string x.dict] 74 true)) := Kp.push (Nat.le_refl _)
  have hS1 := hS.kp (hk1.mono (by omega))
  have hg1 : (H.push (.cells [.int .i64 x.kind, .int .i64 x.rep, .int .i64 x.gen, .int .i64 x.n, .string x.dict] 74 true)).get H.next = _ := get_last
  have hn1 : (H.push (.cells [.int .i64 x.kind, .int .i64 x.rep, .int .i64 x.gen, .int .i64 x.n, .string x.dict] 74 true)).next = H.next + 1 := next_push
  simp only [s49, run_box, isTup, Nt.cells, cellsL, List.toList_toArray, Bool.false_eq_true, if_false]
  generalize H.push (.cells [.int .i64 x.kind, .int .i64 x.rep, .int .i64 x.gen, .int .i64 x.n, .string x.dict] 74 true) = H1 at *
  have hs1 := hS1.s
  by_cases hb : bad x = true
  · have hf : find l x = 1 := by simp [find, hb]
    rw [hf]
    have hc : x.kind < 1 ∨ (¬ x.kind < 1 ∧ 4 < x.kind) ∨ (¬ x.kind < 1 ∧ ¬ 4 < x.kind ∧ x.rep < 1) ∨ (¬ x.kind < 1 ∧ ¬ 4 < x.kind ∧ ¬ x.rep < 1 ∧ x.gen < 1) := by
      simp [bad] at hb; omega
    rcases hc with g1 | ⟨g1, g2⟩ | ⟨g1, g2, g3⟩ | ⟨g1, g2, g3, g4⟩
    · simp [addOff, hg1, g1, hk1]
    · simp [addOff, hg1, g1, g2, hk1]
    · simp [addOff, hg1, g1, g2, g3, hk1]
    · simp [addOff, hg1, g1, g2, g3, g4, hk1]
  · have hc : ¬ x.kind < 1 ∧ ¬ 4 < x.kind ∧ ¬ x.rep < 1 ∧ ¬ x.gen < 1 := by
      simp [bad] at hb; omega
    obtain ⟨g1, g2, g3, g4⟩ := hc
    have hgm := gmax_any l x.rep x.gen (by omega)
    simp [addOff, hg1, g1, g2, g3, g4, hs1, lk_gens hS1]
    by_cases h2 : x.gen < gmax l x.rep
    · have h2' := hgm.mp h2
      simp [h2, find, hb, h2', hk1]
    · have h2' : ¬ (l.any fun m => decide (m.rep = x.rep) && decide (x.gen < m.gen)) = true := fun e => h2 (hgm.mpr e)
      simp [h2, addOff, hs1, hg1, kFill, evPs, isTup, cellsL, wr, lk_failed hS1]
      by_cases h3 : (l.any fun m => decide (m.rep = x.rep) && (decide (m.gen = x.gen) && decide (m.kind = 3))) = true
      · simp [h3, find, hb, h2', hk1]
      · by_cases h4 : x.kind = 2
        · simp [h3, hg1, h4, kLdn, rd]
          have hbl := block_t hS1 x
          have hfb : find l x = findB l x := by
            simp only [find, hb, h2', h3, h4, findB]; simp
          rw [hfb]
          simp only [Nt.cells, h4] at hbl
          refine hbl.mono ?_
          rintro v H2 ⟨rfl, hk2⟩
          simp
          exact hk1.trans (hk2.mono (by omega))
        · simp [h3, hg1, h4, find, hb, h2', hk1]
end
end Go.Proofs.Ytccjanieihlpcaa.K
