/- Notes looked through: what a note adds to what is known. -/
import Derived.Test.YtccjanieihlpcaaPAudA
set_option maxRecDepth 100000
set_option maxHeartbeats 2000000
set_option linter.unusedVariables false
set_option linter.unusedSimpArgs false
namespace Go.Proofs.Ytccjanieihlpcaa.K
open Go Go.Proofs
section
variable {N : Nat} {H : Heap} {l : List Nt} {K : Kv}
theorem gmax_snoc (l : List Nt) (x : Nt) (r : Int) : gmax (l ++ [x]) r = if x.rep = r then max (gmax l r) x.gen else gmax l r := by
  simp [gmax, List.foldl_append]
theorem lastD_snoc (l : List Nt) (x y : Nt) : lastD (l ++ [x]) y = if same x y && decide (x.kind = 1) then some x.dict else lastD l y := by
  simp [lastD, List.foldl_append]
theorem same_key (x y : Nt) : same x y = true ↔ (y.rep, y.gen, y.n) = (x.rep, x.gen, x.n) := by
  simp [same]
  constructor
  · rintro ⟨h1, h2, h3⟩; exact ⟨h1.symm, h2.symm, h3.symm⟩
  · rintro ⟨h1, h2, h3⟩; exact ⟨h1.symm, h2.symm, h3.symm⟩
theorem add_t (hS : Seen N H l) (x : Nt) : Wf S 50 [.pointer (some ⟨N + 4, 0, none⟩), .agg x.cells.toArray] H fun v H' => Seen N H' (l ++ [x]) ∧ H.next ≤ H'.next ∧ (∀ k, k < H.next → k < N ∨ N + 5 ≤ k → H'.get k = H.get k) := by
  refine w50 rfl rfl _ _ ?_
  have hlt := lt_cells hS.s
  have hk1 : Kp H.next H (H.push (.cells [.int .i64 x.kind, .int .i64 x.rep, .int .i64 x.gen, .int .i64 x.n, .string x.dict] 74 true)) := Kp.push (Nat.le_refl _)
  have hS1 := hS.kp (hk1.mono (by omega))
  have hg1 : (H.push (.cells [.int .i64 x.kind, .int .i64 x.rep, .int .i64 x.gen, .int .i64 x.n, .string x.dict] 74 true)).get H.next = _ := get_last
  have hn1 : (H.push (.cells [.int .i64 x.kind, .int .i64 x.rep, .int .i64 x.gen, .int .i64 x.n, .string x.dict] 74 true)).next = H.next + 1 := next_push
  simp only [s50, run_box, isTup, Nt.cells, cellsL, List.toList_toArray, Bool.false_eq_true, if_false]
  generalize H.push (.cells [.int .i64 x.kind, .int .i64 x.rep, .int .i64 x.gen, .int .i64 x.n, .string x.dict] 74 true) = H1 at *
  have hs1 := hS1.s
  obtain ⟨fg, kg, vg⟩ := hS1.gens
  obtain ⟨bg, mg, ng⟩ := kg.mup enc_int x.rep (.int .i64 (max (gmax l x.rep) x.gen))
  have hmg : kMup H1 (.s .int) (.map (some N)) (.int .i64 x.rep) (.int .i64 (max (gmax l x.rep) x.gen)) = _ := mg
  simp [addOff, hg1, hs1, lk_gens hS1, hmg]
  have hg2 : (H1.put N bg).get H.next = _ := (get_put_ne (by omega)).trans hg1
  have hs2 : (H1.put N bg).get (N + 4) = _ := (get_put_ne (by omega)).trans hs1
  have hkg := ng (H1.put N bg) (get_put_eq (by omega))
  have hn2 : (H1.put N bg).next = H.next + 1 := by rw [next_put]; exact hn1
  have hold : ∀ k, k < H.next → k ≠ N → (H1.put N bg).get k = H.get k := fun k h1 h2 => (get_put_ne h2).trans (hk1.2 k h1)
  have ho1 : (H1.put N bg).get (N + 1) = H1.get (N + 1) := get_put_ne (by omega)
  have ho2 : (H1.put N bg).get (N + 2) = H1.get (N + 2) := get_put_ne (by omega)
  have ho3 : (H1.put N bg).get (N + 3) = H1.get (N + 3) := get_put_ne (by omega)
  obtain ⟨ff, kf, vf⟩ := hS1.failed
  obtain ⟨fm, km, vm⟩ := hS1.made
  obtain ⟨fr, kr, vr⟩ := hS1.read
  have kf2 := kf.get ho1
  have km2 := km.get ho2
  have kr2 := kr.get ho3
  generalize H1.put N bg = H2 at *
  have hgens : ∀ r, ((fun k => if k = x.rep then some (Value.int .i64 (max (gmax l x.rep) x.gen)) else fg k) r).getD (.int .i64 0) = .int .i64 (gmax (l ++ [x]) r) := by
    intro r
    rw [gmax_snoc]
    by_cases h : r = x.rep
    · simp [h]
    · simp [h, Ne.symm h, vg]
  have hfail : ∀ r g, (l ++ [x]).any (fun m => decide (m.rep = r) && (decide (m.gen = g) && decide (m.kind = 3))) = ((l.any fun m => decide (m.rep = r) && (decide (m.gen = g) && decide (m.kind = 3))) || (decide (x.rep = r) && (decide (x.gen = g) && decide (x.kind = 3)))) := fun r g => by simp
  have hread : ∀ y, (l ++ [x]).any (fun m => same m y && decide (m.kind = 2)) = ((l.any fun m => same m y && decide (m.kind = 2)) || (same x y && decide (x.kind = 2))) := fun y => by simp
  by_cases h1 : x.kind = 1
  · simp [hg2, h1, addOff, hs2, kLdn, rd]
    have hof := of_t (H := H2) x
    simp only [Nt.cells, h1] at hof
    refine hof.mono ?_
    rintro v H3 ⟨rfl, hk3⟩
    have hs3 := (hk3.2 (N + 4) (by omega)).trans hs2
    have hg3 := (hk3.2 H.next (by omega)).trans hg2
    have km3 := km2.get (hk3.2 (N + 2) (by omega))
    obtain ⟨bm, mm, nm⟩ := km3.mup enc_int3 (x.rep, x.gen, x.n) (.string x.dict)
    have hmm : kMup H3 (.agg [.int, .int, .int]) (.map (some (N + 2))) (.agg #[.int .i64 x.rep, .int .i64 x.gen, .int .i64 x.n]) (.string x.dict) = _ := mm
    have hn3 := hk3.1
    simp [ck, kop, Env.ev, kLd, hs3, hg3, veq, veq1, hmm]
    refine ⟨⟨(get_put_ne (by omega)).trans hs3, ⟨_, hkg.get ((get_put_ne (by omega)).trans (hk3.2 N (by omega))), hgens⟩, ⟨_, kf2.get ((get_put_ne (by omega)).trans (hk3.2 _ (by omega))), fun r g => ?_⟩, ⟨_, nm _ (get_put_eq (by omega)), fun y => ?_⟩, ⟨_, kr2.get ((get_put_ne (by omega)).trans (hk3.2 _ (by omega))), fun y => ?_⟩⟩, ?_, ?_⟩
    · rw [hfail, vf]; simp [h1]
    · rw [lastD_snoc]
      by_cases hk : same x y = true
      · have := (same_key x y).mp hk
        simp [this, hk, h1]
      · have : ¬ (y.rep, y.gen, y.n) = (x.rep, x.gen, x.n) := fun e => hk ((same_key x y).mpr e)
        simp only [this, if_false, hk, Bool.false_and]
        simpa using vm y
    · rw [hread, vr]; simp [h1]
    · rw [next_put]; omega
    · intro k hk hN
      rw [get_put_ne (by omega), hk3.2 k (by omega)]
      exact hold k hk (by omega)
  by_cases h2 : x.kind = 2
  · simp [hg2, h2, addOff, hs2, kLdn, rd]
    have hof := of_t (H := H2) x
    simp only [Nt.cells, h2] at hof
    refine hof.mono ?_
    rintro v H3 ⟨rfl, hk3⟩
    have hs3 := (hk3.2 (N + 4) (by omega)).trans hs2
    have hg3 := (hk3.2 H.next (by omega)).trans hg2
    have kr3 := kr2.get (hk3.2 (N + 3) (by omega))
    obtain ⟨bm, mm, nm⟩ := kr3.mup enc_int3 (x.rep, x.gen, x.n) (.bool true)
    have hmm : kMup H3 (.agg [.int, .int, .int]) (.map (some (N + 3))) (.agg #[.int .i64 x.rep, .int .i64 x.gen, .int .i64 x.n]) (.bool true) = _ := mm
    have hn3 := hk3.1
    simp [ck, kop, Env.ev, kLd, hs3, hg3, veq, veq1, hmm]
    refine ⟨⟨(get_put_ne (by omega)).trans hs3, ⟨_, hkg.get ((get_put_ne (by omega)).trans (hk3.2 N (by omega))), hgens⟩, ⟨_, kf2.get ((get_put_ne (by omega)).trans (hk3.2 _ (by omega))), fun r g => ?_⟩, ⟨_, km2.get ((get_put_ne (by omega)).trans (hk3.2 _ (by omega))), fun y => ?_⟩, ⟨_, nm _ (get_put_eq (by omega)), fun y => ?_⟩⟩, ?_, ?_⟩
    · rw [hfail, vf]; simp [h2]
    · rw [lastD_snoc]; simp [h2, vm]
    · rw [hread]
      by_cases hk : same x y = true
      · have := (same_key x y).mp hk
        simp [this, hk, h2]
      · have : ¬ (y.rep, y.gen, y.n) = (x.rep, x.gen, x.n) := fun e => hk ((same_key x y).mpr e)
        simp only [this, if_false, hk, Bool.false_and, Bool.or_false]
        exact vr y
    · rw [next_put]; omega
    · intro k hk hN
      rw [get_put_ne (by omega), hk3.2 k (by omega)]
      exact hold k hk (by omega)
  by_cases h3 : x.kind = 3
  · obtain ⟨bm, mm, nm⟩ := kf2.mup enc_int2 (x.rep, x.gen) (.bool true)
    have hmm : kMup H2 (.agg [.int, .int]) (.map (some (N + 1))) (.agg #[.int .i64 x.rep, .int .i64 x.gen]) (.bool true) = _ := mm
    simp [hg2, h3, addOff, hs2, kLdn, rd, kFill, evPs, isTup, cellsL, wr, hmm]
    refine ⟨⟨(get_put_ne (by omega)).trans hs2, ⟨_, hkg.get (get_put_ne (by omega)), hgens⟩, ⟨_, nm _ (get_put_eq (by omega)), fun r g => ?_⟩, ⟨_, km2.get (get_put_ne (by omega)), fun y => ?_⟩, ⟨_, kr2.get (get_put_ne (by omega)), fun y => ?_⟩⟩, ?_, ?_⟩
    · rw [hfail]
      by_cases hk : (r, g) = (x.rep, x.gen)
      · simp only [Prod.mk.injEq] at hk
        simp [hk, h3]
      · have hk2 : (decide (x.rep = r) && (decide (x.gen = g) && decide (x.kind = 3))) = false := by
          simp only [Prod.mk.injEq, not_and] at hk
          by_cases e : r = x.rep
          · simp [e, Ne.symm (hk e)]
          · simp [Ne.symm e]
        simp only [hk, if_false, hk2, Bool.or_false]
        exact vf r g
    · rw [lastD_snoc]; simp [h3, vm]
    · rw [hread, vr]; simp [h3]
    · rw [next_put]; omega
    · intro k hk hN
      rw [get_put_ne (by omega)]
      exact hold k hk (by omega)
  · simp [hg2, h1, h2, h3]
    refine ⟨⟨hs2, ⟨_, hkg, hgens⟩, ⟨_, kf2, fun r g => ?_⟩, ⟨_, km2, fun y => ?_⟩, ⟨_, kr2, fun y => ?_⟩⟩, ?_, ?_⟩
    · rw [hfail, vf]; simp [h3]
    · rw [lastD_snoc]; simp [h1, vm]
    · rw [hread, vr]; simp [h2]
    · omega
    · intro k hk hN
      exact hold k hk (by omega)
end
end Go.Proofs.Ytccjanieihlpcaa.K
