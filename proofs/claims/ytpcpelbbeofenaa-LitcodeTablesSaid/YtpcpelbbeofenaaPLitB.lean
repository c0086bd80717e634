/- Lengths as bytes: the tables. -/
import Derived.Test.YtpcpelbbeofenaaPLitA
set_option maxRecDepth 100000
set_option maxHeartbeats 2000000
set_option linter.unusedVariables false
set_option linter.unusedSimpArgs false
namespace Go.Proofs.Ytpcpelbbeofenaa.K
open Go Go.Proofs
theorem u8_nat {x : Int} (h0 : 0 ≤ x) (h1 : x < 256) : ((u8 x).toNat : Int) = x := by
  unfold u8
  have : (UInt8.ofNat x.toNat).toNat = x.toNat := by
    rw [UInt8.toNat_ofNat']; omega
  rw [this]; omega
theorem wrap8 {x : Int} (h0 : 0 ≤ x) (h1 : x < 256) : IntKind.u8.wrap x = x := by
  simp [IntKind.wrap, IntKind.signed, IntKind.bits]; omega
theorem bv_u8 {x : Int} (h0 : 0 ≤ x) (h1 : x < 256) : Value.int .u8 x = bv (u8 x) := by
  unfold bv; rw [u8_nat h0 h1]
theorem bvs_snoc (l : Bytes) (b : UInt8) : bvs (l ++ [b]) = bvs l ++ [bv b] := by simp [bvs]
section
variable {H : Heap}
def TI (H0 : Heap) (v' : Value) (s : List Int) (first : UInt8) (d : Nat) (e3 e4 e5 : Value) (H : Heap) : Prop := ∃ j : Nat, j ≤ (s.length + 1) / 2 ∧ d = (s.length + 1) / 2 - j ∧ Kp H0.next H0 H ∧ H0.next ≤ H.next ∧ e3 = v' ∧ Acc 5 1 H0.next H.next H e4 (j + 1) (bvs (first :: tabs s j)) ∧ e5 = .int .i64 ((2 * j : Nat) : Int)
theorem rTable_t {v : Value} {l : List Int} (h : Is H v l) (hlen : l.length ≤ 256) (hall : ∀ k, 0 ≤ at0 l k ∧ at0 l k ≤ 11) (hpos : 1 ≤ shortN l) : Wf S 40 [v] H fun r H' => r = .string (ofL (tableOf l)) ∧ Kp H.next H H' := by
  refine w40 rfl rfl _ ?_
  simp [s40]
  refine (rShort_t h (by omega)).mono ?_
  rintro v' H1 ⟨rfl, his⟩
  have hsl := short_len l
  have hsle := shortN_le l
  obtain ⟨a, c, rfl, hiv⟩ := his.iv
  have hw1 : IntKind.i64.wrap ((short l).length - 1) = ((shortN l : Int) - 1) := by rw [hsl]; exact wi (by omega) (by omega)
  have hw2 : IntKind.u8.wrap ((shortN l : Int) - 1) = (shortN l : Int) - 1 := wrap8 (by omega) (by omega)
  have hsat : ∀ k, 0 ≤ at0 (short l) k ∧ at0 (short l) k ≤ 11 := fun k => by
    rcases Nat.lt_or_ge k (shortN l) with hk | hk
    · rw [short_at hk]; exact hall k
    · rw [short_out hk]; omega
  simp [hw1, hw2, kFill, evPs, isTup, cellsL, wr]
  have hfirst : Value.int .u8 ((shortN l : Int) - 1) = bv (u8 ((shortN l : Int) - 1)) := bv_u8 (by omega) (by omega)
  rw [hfirst]
  have hone : Acc 5 1 H1.next (H1.next + 1) (H1.push (.cells [bv (u8 ((shortN l : Int) - 1))] 5 true)) (.slice (some ⟨H1.next, 0, none⟩) 1 1) 1 [bv (u8 ((shortN l : Int) - 1))] := Acc.one (Nat.le_refl _) rfl
  refine l40_0 S (fun d e H => TI H1 (.slice a (short l).length c) (short l) (u8 ((shortN l : Int) - 1)) d (e 3) (e 4) (e 5) H) ((shortN l + 1) / 2) ⟨0, by omega, by rw [hsl]; omega, Kp.push (Nat.le_refl _), by simp, by simp, ?_, by simp⟩ ?_
  · simpa [tabs, bvs] using hone
  rintro d e H ⟨j, hj, rfl, hk, hn, e3, hA, e5⟩
  rw [hsl] at hj
  by_cases h3 : 2 * j < shortN l
  · obtain ⟨b, o, cs, rw, rfl, hg0, hc⟩ := hiv (by omega)
    have hg := (hk.2 b (lt_cells hg0)).trans hg0
    obtain ⟨x, hx⟩ : ∃ x, (short l)[2 * j]? = some x := ⟨_, List.getElem?_eq_getElem (by omega)⟩
    have hcx := hc _ x hx
    have hax := at0_of hx
    have hxb := hsat (2 * j)
    rw [hax] at hxb
    have h3' : 2 * j < (short l).length := by omega
    have h3'' : (2 : Int) * j < (short l).length := by omega
    have h30 : (0 : Int) ≤ 2 * (j : Int) := by omega
    have htn : ((2 : Int) * (j : Int)).toNat = 2 * j := by omega
    have hwi : IntKind.i64.wrap (2 * (j : Int) + 1) = 2 * (j : Int) + 1 := wi (by omega) (by omega)
    have hwi2 : IntKind.i64.wrap (2 * (j : Int) + 2) = 2 * (j : Int) + 2 := wi (by omega) (by omega)
    -- what is laid at the end
    have hrest : ∀ (y : Int), 0 ≤ y → y ≤ 11 → at0 (short l) (2 * j + 1) = y → ∃ v' H', kApp (H.push (.cells [.int .u8 (IntKind.u8.wrap (x + 16 * y))] 5 true)) 5 1 1 (e 4) 1 [.int .u8 (IntKind.u8.wrap (x + 16 * y))] = some (v', H') ∧ TI H1 (.slice (some ⟨b, o, none⟩) (short l).length c) (short l) (u8 ((shortN l : Int) - 1)) ((shortN l + 1) / 2 - (j + 1)) (.slice (some ⟨b, o, none⟩) (short l).length c) v' (.int .i64 (2 * (j : Int) + 2)) H' := by
      intro y hy0 hy1 hay
      have hpb : pairB (short l) j = u8 (x + 16 * y) := by unfold pairB; rw [hax, hay]
      have hwb : IntKind.u8.wrap (x + 16 * y) = x + 16 * y := wrap8 (by omega) (by omega)
      rw [hwb, bv_u8 (by omega) (by omega)]
      obtain ⟨v2, H2, hap, hA2, hn2, hk2⟩ := hA.app (bytes := 1) (new := [bv (u8 (x + 16 * y))]) hn (Nat.le_refl _) rfl (by unfold roomMax; omega)
      refine ⟨v2, H2, hap, j + 1, by omega, by omega, ⟨by have := hk.1; omega, fun k hk' => (hk2 k (by omega) (.inl hk')).trans (hk.2 k hk')⟩, by omega, rfl, ?_, by congr 1⟩
      have ht : bvs (u8 ((shortN l : Int) - 1) :: tabs (short l) (j + 1)) = bvs (u8 ((shortN l : Int) - 1) :: tabs (short l) j) ++ [bv (u8 (x + 16 * y))] := by
        rw [tabs_succ, hpb]; simp [bvs]
      rw [ht]; exact hA2
    by_cases h4 : 2 * j + 1 < shortN l
    · obtain ⟨y, hy⟩ : ∃ y, (short l)[2 * j + 1]? = some y := ⟨_, List.getElem?_eq_getElem (by omega)⟩
      have hcy := hc _ y hy
      have hay := at0_of hy
      have hyb := hsat (2 * j + 1)
      rw [hay] at hyb
      have h4' : (2 : Int) * j + 1 < (short l).length := by omega
      have h41 : (0 : Int) ≤ 2 * (j : Int) + 1 := by omega
      have htn1 : ((2 : Int) * (j : Int) + 1).toNat = 2 * j + 1 := by omega
      have hwm : IntKind.i64.wrap (16 * y) = 16 * y := wi (by omega) (by omega)
      have hwa : IntKind.i64.wrap (x + 16 * y) = x + 16 * y := wi (by omega) (by omega)
      obtain ⟨v2, H2, hap, hT⟩ := hrest y hyb.1 hyb.2 hay
      have hcy' : cs[o + (2 * j + 1)]? = some (.int .i64 y) := hcy
      simp [s40_0, e3, e5, h3', h3'', h30, htn, addOff, hg, hcx, hwi, h4', h41, htn1, hcy', hwm, hwa, kFill, evPs, isTup, cellsL, wr, kRow, rd, hap, hwi2]
      exact ⟨_, by rw [hsl]; omega, hT⟩
    · have h4' : ¬ (2 : Int) * j + 1 < (short l).length := by omega
      obtain ⟨v2, H2, hap, hT⟩ := hrest 0 (by omega) (by omega) (short_out (by omega))
      simp only [Int.mul_zero, Int.add_zero] at hap
      simp [s40_0, e3, e5, h3', h3'', h30, htn, addOff, hg, hcx, hwi, h4', kFill, evPs, isTup, cellsL, wr, kRow, rd, hap, hwi2]
      exact ⟨_, by rw [hsl]; omega, hT⟩
  · have h5 : j = (shortN l + 1) / 2 := by omega
    have h3' : ¬ (2 : Int) * j < (short l).length := by omega
    have h3'' : ¬ 2 * j < (short l).length := by omega
    obtain ⟨a4, c4, he4, hrow⟩ := hA.row
    simp [s40_0, e3, e5, he4, h3', h3'']
    rw [s_b2s hrow]
    refine ⟨?_, hk⟩
    rw [h5]; rfl
theorem or16 : ∀ x : Fin 16, ∀ y : Fin 16, (BitVec.ofInt 8 (x.val : Int) ||| BitVec.ofInt 8 (16 * (y.val : Int))).toNat = x.val + 16 * y.val := by decide
theorem kb_or8 {x y : Int} (hx0 : 0 ≤ x) (hx1 : x < 16) (hy0 : 0 ≤ y) (hy1 : y < 16) : kBin .or (.int .u8 x) (.int .u8 (16 * y)) = some (.int .u8 (x + 16 * y)) := by
  rw [kb_or]
  have h := or16 ⟨x.toNat, by omega⟩ ⟨y.toNat, by omega⟩
  simp only at h
  have ex : ((x.toNat : Nat) : Int) = x := by omega
  have ey : ((y.toNat : Nat) : Int) = y := by omega
  rw [ex, ey] at h
  have hb : IntKind.u8.bits = 8 := rfl
  rw [hb, h]
  rw [wrap8 (by omega) (by omega)]
  congr 2; omega
theorem Table_t {v : Value} {l : List Int} (h : Is H v l) (hm : (l.length : Int) ≤ 9223372036854775807) (hpos : wholeB l = true → 1 ≤ shortN l) : Wf S 36 [v] H fun r H' => Kp H.next H H' ∧ r = if wholeB l = true then .tuple #[.string (ofL (tableOf l)), .bool true] else .tuple #[.string (ofL []), .bool false] := by
  refine w36 rfl rfl _ ?_
  obtain ⟨a0, c0, rfl, hiv0⟩ := h.iv
  simp [s36]
  refine (Whole_t hiv0 hm).mono ?_
  rintro r H1 ⟨rfl, rfl⟩
  by_cases hwh0 : ¬ wholeB l = true
  · simp [hwh0, tup, bs_ofL]
    exact Kp.refl _ _
  have hwh : wholeB l = true := Decidable.not_not.mp hwh0
  have hr : rightB l = true := by simp only [wholeB, Bool.and_eq_true] at hwh; exact hwh.1
  have hlen := right_len hr
  have hall := right_all hr
  have hpos := hpos hwh
  simp [hwh]
  refine (Short_t h (by omega)).mono ?_
  rintro v' H1 ⟨rfl, his⟩
  have hsl := short_len l
  have hsle := shortN_le l
  obtain ⟨a, c, rfl, hiv⟩ := his.iv
  have hw1 : IntKind.i64.wrap ((short l).length - 1) = ((shortN l : Int) - 1) := by rw [hsl]; exact wi (by omega) (by omega)
  have hw2 : IntKind.u8.wrap ((shortN l : Int) - 1) = (shortN l : Int) - 1 := wrap8 (by omega) (by omega)
  have hsat : ∀ k, 0 ≤ at0 (short l) k ∧ at0 (short l) k ≤ 11 := fun k => by
    rcases Nat.lt_or_ge k (shortN l) with hk | hk
    · rw [short_at hk]; exact hall k
    · rw [short_out hk]; omega
  simp [hw1, hw2, kFill, evPs, isTup, cellsL, wr]
  have hfirst : Value.int .u8 ((shortN l : Int) - 1) = bv (u8 ((shortN l : Int) - 1)) := bv_u8 (by omega) (by omega)
  rw [hfirst]
  have hone : Acc 5 1 H1.next (H1.next + 1) (H1.push (.cells [bv (u8 ((shortN l : Int) - 1))] 5 true)) (.slice (some ⟨H1.next, 0, none⟩) 1 1) 1 [bv (u8 ((shortN l : Int) - 1))] := Acc.one (Nat.le_refl _) rfl
  refine l36_0 S (fun d e H => TI H1 (.slice a (short l).length c) (short l) (u8 ((shortN l : Int) - 1)) d (e 4) (e 5) (e 6) H) ((shortN l + 1) / 2) ⟨0, by omega, by rw [hsl]; omega, Kp.push (Nat.le_refl _), by simp, by simp, ?_, by simp⟩ ?_
  · simpa [tabs, bvs] using hone
  rintro d e H ⟨j, hj, rfl, hk, hn, e4, hA, e6⟩
  rw [hsl] at hj
  by_cases h3 : 2 * j < shortN l
  · obtain ⟨b, o, cs, rw, rfl, hg0, hc⟩ := hiv (by omega)
    have hg := (hk.2 b (lt_cells hg0)).trans hg0
    obtain ⟨x, hx⟩ : ∃ x, (short l)[2 * j]? = some x := ⟨_, List.getElem?_eq_getElem (by omega)⟩
    have hcx := hc _ x hx
    have hax := at0_of hx
    have hxb := hsat (2 * j)
    rw [hax] at hxb
    have h3' : 2 * j < (short l).length := by omega
    have h3'' : (2 : Int) * j < (short l).length := by omega
    have h30 : (0 : Int) ≤ 2 * (j : Int) := by omega
    have htn : ((2 : Int) * (j : Int)).toNat = 2 * j := by omega
    have hwi : IntKind.i64.wrap (2 * (j : Int) + 1) = 2 * (j : Int) + 1 := wi (by omega) (by omega)
    have hwi2 : IntKind.i64.wrap (2 * (j : Int) + 2) = 2 * (j : Int) + 2 := wi (by omega) (by omega)
    -- what is laid at the end
    have hrest : ∀ (y : Int), 0 ≤ y → y ≤ 11 → at0 (short l) (2 * j + 1) = y → ∃ v' H', kApp (H.push (.cells [.int .u8 (IntKind.u8.wrap (x + 16 * y))] 5 true)) 5 1 1 (e 5) 1 [.int .u8 (IntKind.u8.wrap (x + 16 * y))] = some (v', H') ∧ TI H1 (.slice (some ⟨b, o, none⟩) (short l).length c) (short l) (u8 ((shortN l : Int) - 1)) ((shortN l + 1) / 2 - (j + 1)) (.slice (some ⟨b, o, none⟩) (short l).length c) v' (.int .i64 (2 * (j : Int) + 2)) H' := by
      intro y hy0 hy1 hay
      have hpb : pairB (short l) j = u8 (x + 16 * y) := by unfold pairB; rw [hax, hay]
      have hwb : IntKind.u8.wrap (x + 16 * y) = x + 16 * y := wrap8 (by omega) (by omega)
      rw [hwb, bv_u8 (by omega) (by omega)]
      obtain ⟨v2, H2, hap, hA2, hn2, hk2⟩ := hA.app (bytes := 1) (new := [bv (u8 (x + 16 * y))]) hn (Nat.le_refl _) rfl (by unfold roomMax; omega)
      refine ⟨v2, H2, hap, j + 1, by omega, by omega, ⟨by have := hk.1; omega, fun k hk' => (hk2 k (by omega) (.inl hk')).trans (hk.2 k hk')⟩, by omega, rfl, ?_, by congr 1⟩
      have ht : bvs (u8 ((shortN l : Int) - 1) :: tabs (short l) (j + 1)) = bvs (u8 ((shortN l : Int) - 1) :: tabs (short l) j) ++ [bv (u8 (x + 16 * y))] := by
        rw [tabs_succ, hpb]; simp [bvs]
      rw [ht]; exact hA2
    by_cases h4 : 2 * j + 1 < shortN l
    · obtain ⟨y, hy⟩ : ∃ y, (short l)[2 * j + 1]? = some y := ⟨_, List.getElem?_eq_getElem (by omega)⟩
      have hcy := hc _ y hy
      have hay := at0_of hy
      have hyb := hsat (2 * j + 1)
      rw [hay] at hyb
      have h4' : (2 : Int) * j + 1 < (short l).length := by omega
      have h41 : (0 : Int) ≤ 2 * (j : Int) + 1 := by omega
      have htn1 : ((2 : Int) * (j : Int) + 1).toNat = 2 * j + 1 := by omega
      have hwx : IntKind.u8.wrap x = x := wrap8 (by omega) (by omega)
      have hwy : IntKind.u8.wrap y = y := wrap8 (by omega) (by omega)
      have hb4 : min 4 IntKind.u8.bits = 4 := by decide
      have hwm : IntKind.u8.wrap (y * 16) = 16 * y := by rw [wrap8 (by omega) (by omega)]; omega
      have hor := kb_or8 (x := x) (y := y) (by omega) (by omega) (by omega) (by omega)
      have hwz : IntKind.u8.wrap (x + 16 * y) = x + 16 * y := wrap8 (by omega) (by omega)
      obtain ⟨v2, H2, hap, hT⟩ := hrest y hyb.1 hyb.2 hay
      rw [hwz] at hap
      have hcy' : cs[o + (2 * j + 1)]? = some (.int .i64 y) := hcy
      simp [s36_0, e4, e6, h3', h3'', h30, htn, addOff, hg, hcx, hwi, h4', h41, htn1, hcy', hwx, hwy, kb_shl, hb4, hwm, hor, kFill, evPs, isTup, cellsL, wr, kRow, rd, hap, hwi2]
      exact ⟨_, by rw [hsl]; omega, hT⟩
    · have h4' : ¬ (2 : Int) * j + 1 < (short l).length := by omega
      obtain ⟨v2, H2, hap, hT⟩ := hrest 0 (by omega) (by omega) (short_out (by omega))
      simp only [Int.mul_zero, Int.add_zero] at hap
      simp [s36_0, e4, e6, h3', h3'', h30, htn, addOff, hg, hcx, hwi, h4', kFill, evPs, isTup, cellsL, wr, kRow, rd, hap, hwi2]
      exact ⟨_, by rw [hsl]; omega, hT⟩
  · have h5 : j = (shortN l + 1) / 2 := by omega
    have h3' : ¬ (2 : Int) * j < (short l).length := by omega
    have h3'' : ¬ 2 * j < (short l).length := by omega
    obtain ⟨a4, c4, he4, hrow⟩ := hA.row
    simp [s36_0, e4, e6, he4, h3', h3'']
    rw [s_b2s hrow]
    simp [tup]
    refine ⟨hk, ?_⟩
    rw [h5]; rfl
end
end Go.Proofs.Ytpcpelbbeofenaa.K
