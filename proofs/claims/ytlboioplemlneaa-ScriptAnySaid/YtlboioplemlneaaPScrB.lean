/- The act at the beginning of bytes: as the document reads it. -/
import Derived.Test.YtlboioplemlneaaPScrA
set_option maxRecDepth 100000
set_option maxHeartbeats 4000000
set_option linter.unusedVariables false
set_option linter.unusedSimpArgs false
namespace Go.Proofs.Ytlboioplemlneaa.K
open Go Go.Proofs
/-- the act at the beginning, and what stands behind it -/
def pA : Bytes → Option (Ac × Bytes)
  | k :: nd :: t => if 32 ≤ k.toNat then none else (pG 0 t).bind fun p => if 1073741824 < p.1 then none else (pG 0 p.2).bind fun q =>
      if 600 < q.1 ∨ q.2.length < q.1 then none else if 9 < k.toNat % 16 then none else some (⟨(k.toNat % 16 : Nat), (nd.toNat : Nat), (p.1 : Nat), decide (16 ≤ k.toNat), q.2.take q.1⟩, q.2.drop q.1)
  | _ => none
def AZ : Ac := ⟨0, 0, 0, false, []⟩
theorem AZ_cells : AZ.cells = [.int .i64 0, .int .i64 0, .int .i64 0, .bool false, .string ⟨#[]⟩] := rfl
def gAct (s : Bytes) (v : Value) : Prop := match pA s with
  | some (a, r) => v = .tuple #[.agg a.cells.toArray, .int .i64 ((s.length - r.length : Nat) : Int)]
  | none => ∃ a : Ac, v = .tuple #[.agg a.cells.toArray, .int .i64 0]
theorem gAct_none {s : Bytes} {a : Ac} (h : pA s = none) : gAct s (.tuple #[.agg a.cells.toArray, .int .i64 0]) := by unfold gAct; rw [h]; exact ⟨a, rfl⟩
theorem gFirst_some {s t : Bytes} {v : Nat} (h : pG 0 s = some (v, t)) : gFirst s = .tuple #[.int .u64 (v : Int), .int .i64 ((s.length - t.length : Nat) : Int)] := by unfold gFirst; rw [h]
theorem gFirst_none {s : Bytes} (h : pG 0 s = none) : gFirst s = .tuple #[.int .u64 0, .int .i64 0] := by unfold gFirst; rw [h]
theorem rAct_t {H : Heap} (s : Bytes) (hs : s.length ≤ 1000000) : Wf S 20 [.string (ofL s)] H fun r H' => Kp H.next H H' ∧ gAct s r := by
  refine w20 rfl rfl _ ?_
  obtain ⟨H2, hH2⟩ : ∃ H2, H2 = (H.push (.cells [.int .i64 0, .int .i64 0, .int .i64 0, .bool false, .string ⟨#[]⟩] 25 true)).push (.cells [.int .i64 0, .int .i64 0, .int .i64 0, .bool false, .string ⟨#[]⟩] 25 true) := ⟨_, rfl⟩
  have g2 : H2.get H.next = .cells AZ.cells 25 true := by rw [hH2, get_old (by simp)]; exact get_last
  have g4 : H2.get (H.next + 1) = .cells AZ.cells 25 true := by
    rw [hH2]
    have := get_last (H := H.push (.cells AZ.cells 25 true)) (b := .cells AZ.cells 25 true)
    rw [next_push] at this; exact this
  have n2 : H2.next = H.next + 2 := by rw [hH2]; simp
  have k2 : Kp H.next H H2 := by rw [hH2]; exact (Kp.push (Nat.le_refl _)).trans (Kp.push (by simp))
  have bsz : (.string (bs []) : Value) = .string ⟨#[]⟩ := rfl
  simp only [s20, bsz]
  rw [run_alloc, run_alloc, next_push, ← hH2]
  -- a reading that ends in nothing
  have nope : ∀ (H3 : Heap), Kp H2.next H2 H3 → ∃ H4, kLdn H3 5 (.pointer (some ⟨H.next + 1, 0, none⟩)) = some (.agg AZ.cells.toArray) ∧ kStn H3 5 (.pointer (some ⟨H.next, 0, none⟩)) (.agg AZ.cells.toArray) = some H4 ∧ kLdn H4 5 (.pointer (some ⟨H.next, 0, none⟩)) = some (.agg AZ.cells.toArray) ∧ Kp H.next H H4 := by
    intro H3 hk3
    have e4 := (hk3.2 (H.next + 1) (by omega)).trans g4
    have e2 := (hk3.2 H.next (by omega)).trans g2
    refine ⟨H3.put H.next (.cells AZ.cells 25 true), by simp [kLdn, e4, rd, AZ_cells], by simp [kStn, e2, AZ_cells, wr], ?_, ?_⟩
    · have hlt : H.next < H3.next := by have := hk3.1; omega
      simp [kLdn, get_put_eq hlt, rd, AZ_cells]
    · exact k2.trans ((hk3.mono (by omega)).trans (Kp.put (Nat.le_refl _)))
  -- the same, of the result
  have nope2 : ∀ (H3 : Heap), Kp H2.next H2 H3 → pA s = none → ∃ H4, kLdn H3 5 (.pointer (some ⟨H.next + 1, 0, none⟩)) = some (.agg AZ.cells.toArray) ∧ kStn H3 5 (.pointer (some ⟨H.next, 0, none⟩)) (.agg AZ.cells.toArray) = some H4 ∧ kLdn H4 5 (.pointer (some ⟨H.next, 0, none⟩)) = some (.agg AZ.cells.toArray) ∧ Kp H.next H H4 ∧ gAct s (.tuple #[.agg AZ.cells.toArray, .int .i64 0]) := fun H3 h1 h2 => by
    obtain ⟨H4, q1, q2, q3, q4⟩ := nope H3 h1
    exact ⟨H4, q1, q2, q3, q4, gAct_none h2⟩
  match hsh : s with
  | [] =>
    obtain ⟨H4, q1, q2, q3, q4, q5⟩ := nope2 H2 (Kp.refl _ _) rfl
    simp [ofL_size, q1, q2, q3, tup]
    exact ⟨q4, q5⟩
  | [x] =>
    obtain ⟨H4, q1, q2, q3, q4, q5⟩ := nope2 H2 (Kp.refl _ _) rfl
    simp [ofL_size, q1, q2, q3, tup]
    exact ⟨q4, q5⟩
  | k :: nd :: t =>
    have hkb := k.toNat_lt
    have hnb := nd.toNat_lt
    have hat0 : ∀ (K : Kv) (H : Heap), run S (.idS (.c (.string (ofL (k :: nd :: t)))) (.c (.int .i64 0))) [] H K = K (.int .u8 (k.toNat : Int)) H := fun K H => s_at (i := 0) rfl
    have hat1 : ∀ (K : Kv) (H : Heap), run S (.idS (.c (.string (ofL (k :: nd :: t)))) (.c (.int .i64 1))) [] H K = K (.int .u8 (nd.toNat : Int)) H := fun K H => s_at (i := 1) rfl
    have hlen : ¬ ((t.length : Int) + 1 + 1 < 2) := by omega
    simp only [List.length_cons] at hs
    by_cases hk32 : 32 ≤ k.toNat
    · obtain ⟨H4, q1, q2, q3, q4, q5⟩ := nope2 H2 (Kp.refl _ _) (by simp [pA, hk32])
      have hk32' : (32 : Int) ≤ k.toNat := by omega
      simp [-run_idS, ofL_size, hlen, hat0, hk32', q1, q2, q3, tup]
      exact ⟨q4, q5⟩
    · have hk32' : ¬ (32 : Int) ≤ k.toNat := by omega
      have hfr := fun K (H : Heap) => s_from (S := S) (e := []) (H := H) (K := K) (l := k :: nd :: t) (k := .i64) (a := 2)
      have hle2 : (0 : Int) ≤ 2 ∧ (2 : Int) ≤ ((k :: nd :: t).length : Int) := by simp; omega
      simp only [if_pos hle2] at hfr
      have hd2 : (k :: nd :: t).drop (2 : Int).toNat = t := rfl
      simp only [hd2] at hfr
      simp [-run_idS, ofL_size, hlen, hat0, hk32', hfr]
      refine (rFirst_t t (by omega)).mono ?_
      rintro v H3 ⟨hk3, rfl⟩
      have k23 : Kp H2.next H2 H3 := hk3
      cases hp : pG 0 t with
      | none =>
        obtain ⟨H4, q1, q2, q3, q4, q5⟩ := nope2 H3 k23 (by simp [pA, hk32, hp])
        rw [gFirst_none hp]
        simp [q1, q2, q3, tup]
        exact ⟨q4, q5⟩
      | some p =>
        obtain ⟨n, t1⟩ := p
        have hl1 := pG_len hp
        have hs1 := (pG_grp t 0 n t1 hp).1
        have hn64 := pG_lt hp (by omega)
        simp only [Nat.pow_zero, Nat.mul_one] at hn64
        obtain ⟨j1, hj1⟩ : ∃ j1, j1 = t.length - t1.length := ⟨_, rfl⟩
        have hd1 : t.drop j1 = t1 := by
          have h1 := congrArg List.length hs1
          rw [List.length_append] at h1
          have e : j1 = (grp n).length := by omega
          rw [e]
          conv => lhs; rw [hs1]
          simp
        have hj0 : ¬ j1 = 0 := by omega
        rw [gFirst_some hp, ← hj1]
        by_cases hn : 1073741824 < n
        · obtain ⟨H4, q1, q2, q3, q4, q5⟩ := nope2 H3 k23 (by simp [pA, hk32, hp, hn])
          have hn' : (1073741824 : Int) < n := by omega
          simp [hj0, hn, hn', q1, q2, q3, tup]
          exact ⟨q4, q5⟩
        · have hn' : ¬ (1073741824 : Int) < n := by omega
          have w1 : IntKind.i64.wrap (2 + (j1 : Int)) = ((2 + j1 : Nat) : Int) := by rw [wi (by omega) (by omega)]; omega
          have hfr2 := fun K (H : Heap) => s_from (S := S) (e := []) (H := H) (K := K) (l := k :: nd :: t) (k := .i64) (a := ((2 + j1 : Nat) : Int))
          have hle3 : (0 : Int) ≤ ((2 + j1 : Nat) : Int) ∧ ((2 + j1 : Nat) : Int) ≤ ((k :: nd :: t).length : Int) := by simp; omega
          simp only [if_pos hle3, Int.toNat_natCast] at hfr2
          have hd3 : (k :: nd :: t).drop (2 + j1) = t1 := by rw [Nat.add_comm]; exact hd1
          simp only [hd3] at hfr2
          obtain ⟨a1, ha1⟩ : ∃ a1, a1 = 2 + j1 := ⟨_, rfl⟩
          rw [← ha1] at w1 hfr2
          simp [hj0, hn, hn', w1, hfr2]
          refine (rFirst_t t1 (by omega)).mono ?_
          rintro v H4 ⟨hk4, rfl⟩
          have k24 : Kp H2.next H2 H4 := k23.trans (hk4.mono hk3.1)
          cases hp2 : pG 0 t1 with
          | none =>
            obtain ⟨H5, q1, q2, q3, q4, q5⟩ := nope2 H4 k24 (by simp [pA, hk32, hp, hn, hp2])
            rw [gFirst_none hp2]
            simp [w1, q1, q2, q3, tup]
            exact ⟨q4, q5⟩
          | some q =>
            obtain ⟨m, t2⟩ := q
            have hl2 := pG_len hp2
            have hs2 := (pG_grp t1 0 m t2 hp2).1
            have hm64 := pG_lt hp2 (by omega)
            simp only [Nat.pow_zero, Nat.mul_one] at hm64
            obtain ⟨j2, hj2⟩ : ∃ j2, j2 = t1.length - t2.length := ⟨_, rfl⟩
            have hd4 : t1.drop j2 = t2 := by
              have h1 := congrArg List.length hs2
              rw [List.length_append] at h1
              have e : j2 = (grp m).length := by omega
              rw [e]
              conv => lhs; rw [hs2]
              simp
            have hj20 : ¬ j2 = 0 := by omega
            rw [gFirst_some hp2, ← hj2]
            obtain ⟨a2, ha2⟩ : ∃ a2, a2 = a1 + j2 := ⟨_, rfl⟩
            have w2 : IntKind.i64.wrap ((a1 : Int) + j2) = (a2 : Int) := by rw [wi (by omega) (by omega)]; omega
            have hlen2 : ((t.length : Int) + 1 + 1) - a2 = (t2.length : Int) := by omega
            have w3 : IntKind.i64.wrap ((t.length : Int) + 1 + 1 - a2) = (t2.length : Int) := by rw [hlen2]; exact wi (by omega) (by omega)
            have w4 : IntKind.u64.wrap (t2.length : Int) = (t2.length : Int) := wu64 (by omega) (by omega)
            by_cases hm : 600 < m
            · obtain ⟨H5, q1, q2, q3, q4, q5⟩ := nope2 H4 k24 (by simp [pA, hk32, hp, hn, hp2, hm])
              have hm' : (600 : Int) < m := by omega
              simp [w1, w2, w3, w4, ofL_size, hj20, hm, hm', q1, q2, q3, tup]
              exact ⟨q4, q5⟩
            have hm' : ¬ (600 : Int) < m := by omega
            by_cases hm2 : t2.length < m
            · obtain ⟨H5, q1, q2, q3, q4, q5⟩ := nope2 H4 k24 (by simp [pA, hk32, hp, hn, hp2, hm2])
              have hm2' : (t2.length : Int) < m := by omega
              simp [w1, w2, w3, w4, ofL_size, hj20, hm, hm', hm2, hm2', q1, q2, q3, tup]
              exact ⟨q4, q5⟩
            have hm2' : ¬ (t2.length : Int) < m := by omega
            obtain ⟨kd, hkd⟩ : ∃ kd, kd = k.toNat % 16 := ⟨_, rfl⟩
            obtain ⟨kk, hkk⟩ : ∃ kk, kk = k.toNat := ⟨_, rfl⟩
            obtain ⟨nn, hnn⟩ : ∃ nn, nn = nd.toNat := ⟨_, rfl⟩
            have w5 : IntKind.i64.wrap (kk : Int) = kk := wi (by omega) (by omega)
            have t5 : (kk : Int).tmod 16 = (kd : Int) := by rw [Int.tmod_eq_emod_of_nonneg (by omega)]; omega
            have w6 : IntKind.i64.wrap (nn : Int) = nn := wi (by omega) (by omega)
            have w7 : IntKind.i64.wrap (n : Int) = n := wi (by omega) (by omega)
            have w8 : IntKind.i64.wrap (m : Int) = m := wi (by omega) (by omega)
            have w9 : IntKind.i64.wrap ((a2 : Int) + m) = ((a2 + m : Nat) : Int) := by rw [wi (by omega) (by omega)]; omega
            have hsl := fun K (H : Heap) => s_slice (S := S) (e := []) (H := H) (K := K) (l := k :: nd :: t) (k := .i64) (k' := .i64) (a := (a2 : Int)) (b := ((a2 + m : Nat) : Int))
            have hle4 : (0 : Int) ≤ (a2 : Int) ∧ (a2 : Int) ≤ ((a2 + m : Nat) : Int) ∧ ((a2 + m : Nat) : Int) ≤ ((k :: nd :: t).length : Int) := by simp; omega
            have hd5 : (k :: nd :: t).drop a2 = t2 := by
              have e : a2 = a1 + j2 := ha2
              rw [e, ← List.drop_drop, ha1, hd3, hd4]
            have hd6 : ((k :: nd :: t).take (a2 + m)).drop a2 = t2.take m := by rw [List.drop_take, hd5]; congr 1; omega
            simp only [if_pos hle4, Int.toNat_natCast, hd6] at hsl
            obtain ⟨a3, ha3⟩ : ∃ a3, a3 = a2 + m := ⟨_, rfl⟩
            rw [← ha3] at w9 hsl
            rw [← hkk] at hat0 hk32'
            rw [← hnn] at hat1
            -- the act
            obtain ⟨A, hA⟩ : ∃ A : Ac, A = ⟨(kd : Nat), (nn : Nat), (n : Nat), decide (16 ≤ kk), t2.take m⟩ := ⟨_, rfl⟩
            have hAc : A.cells = [.int .i64 (kd : Int), .int .i64 (nn : Int), .int .i64 (n : Int), .bool (decide (16 ≤ kk)), .string (ofL (t2.take m))] := by rw [hA]; rfl
            have e16 : decide ((16 : Int) ≤ kk) = decide (16 ≤ kk) := by congr 1; apply propext; omega
            have g44 := (k24.2 (H.next + 1) (by omega)).trans g4
            have hlt4 := lt_cells g44
            have hst : kStn H4 5 (.pointer (some ⟨H.next + 1, 0, none⟩)) (.agg A.cells.toArray) = some (H4.put (H.next + 1) (.cells A.cells 25 true)) := by simp [kStn, g44, AZ_cells, hAc, wr]
            have hld : ∀ H', H'.get (H.next + 1) = .cells A.cells 25 true → kLdn H' 5 (.pointer (some ⟨H.next + 1, 0, none⟩)) = some (.agg A.cells.toArray) := fun H' h => by simp [kLdn, h, rd, hAc]
            have g45 : (H4.put (H.next + 1) (.cells A.cells 25 true)).get (H.next + 1) = .cells A.cells 25 true := get_put_eq hlt4
            have n45 : (H4.put (H.next + 1) (.cells A.cells 25 true)).next = H4.next := next_put
            have k45 : Kp (H.next + 1) H4 (H4.put (H.next + 1) (.cells A.cells 25 true)) := Kp.put (Nat.le_refl _)
            have hag : (Value.agg #[.int .i64 (kd : Int), .int .i64 (nn : Int), .int .i64 (n : Int), .bool (decide (16 ≤ kk)), .string (ofL (t2.take m))]) = .agg A.cells.toArray := by rw [hAc]
            have hld5 := hld _ g45
            generalize H4.put (H.next + 1) (.cells A.cells 25 true) = H5 at *
            simp [-run_idS, w1, w2, w3, w4, ofL_size, hj20, hm, hm', hm2, hm2', hat0, hat1, w5, t5, w6, w7, w8, w9, hsl, kFill, evPs, isTup, cellsL, wr, e16, hag, hst, hld5]
            refine (rFits_t A).mono ?_
            rintro v H6 ⟨hk6, rfl⟩
            have g26 : H6.get H.next = .cells AZ.cells 25 true := (hk6.2 _ (by omega)).trans ((k45.2 _ (by omega)).trans ((k24.2 _ (by omega)).trans g2))
            have g46 := (hk6.2 (H.next + 1) (by omega)).trans g45
            have hn6 := hk6.1
            have hn4 := k24.1
            have k06 : Kp H.next H H6 := k2.trans ((k24.mono (by omega)).trans ((k45.mono (by omega)).trans (hk6.mono (by omega))))
            by_cases hk9 : 9 < kd
            · have hf : A.fits = false := by
                rw [← Bool.not_eq_true, Ac.fits_iff, hA]; simp; omega
              have hpa : pA (k :: nd :: t) = none := by simp [pA, hk32, hp, hn, hp2, hm, hm2, ← hkd, hk9]
              have hst2 : kStn H6 5 (.pointer (some ⟨H.next, 0, none⟩)) (.agg AZ.cells.toArray) = some (H6.put H.next (.cells AZ.cells 25 true)) := by simp [kStn, g26, AZ_cells, wr]
              have hld2 : kLdn (H6.put H.next (.cells AZ.cells 25 true)) 5 (.pointer (some ⟨H.next, 0, none⟩)) = some (.agg AZ.cells.toArray) := by
                simp [kLdn, get_put_eq (show H.next < H6.next by omega), rd, AZ_cells]
              have hagz : (Value.agg #[.int .i64 0, .int .i64 0, .int .i64 0, .bool false, .string ⟨#[]⟩]) = .agg AZ.cells.toArray := rfl
              simp [hf, kFill, evPs, hagz, hst2, hld2, tup]
              exact ⟨k06.trans (Kp.put (Nat.le_refl _)), gAct_none hpa⟩
            · have hf : A.fits = true := by
                rw [Ac.fits_iff, hA]; simp; omega
              have hpa : pA (k :: nd :: t) = some (A, t2.drop m) := by
                have : ¬ 9 < k.toNat % 16 := by omega
                simp [pA, hk32, hp, hn, hp2, hm, hm2, this, hA, hkd, hkk, hnn]
              have hst2 : kStn H6 5 (.pointer (some ⟨H.next, 0, none⟩)) (.agg A.cells.toArray) = some (H6.put H.next (.cells A.cells 25 true)) := by simp [kStn, g26, AZ_cells, hAc, wr]
              have hld2 : kLdn (H6.put H.next (.cells A.cells 25 true)) 5 (.pointer (some ⟨H.next, 0, none⟩)) = some (.agg A.cells.toArray) := by
                simp [kLdn, get_put_eq (show H.next < H6.next by omega), rd, hAc]
              simp [hf, hld _ g46, w8, w9, hst2, hld2, tup]
              refine ⟨k06.trans (Kp.put (Nat.le_refl _)), ?_⟩
              unfold gAct
              rw [hpa]
              have : (k :: nd :: t).length - (t2.drop m).length = a3 := by simp; omega
              simp only [this]
end Go.Proofs.Ytlboioplemlneaa.K
