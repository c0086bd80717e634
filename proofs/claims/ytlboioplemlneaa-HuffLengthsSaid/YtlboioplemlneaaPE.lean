/- huff.flat, walked. -/
import Derived.Test.YtlboioplemlneaaPC
import Derived.Test.YtlboioplemlneaaPD
import Derived.Test.YtlboioplemlneaaPB
set_option maxRecDepth 100000
set_option maxHeartbeats 4000000
set_option linter.unusedVariables false
set_option linter.unusedSimpArgs false
namespace Go.Proofs.Ytlboioplemlneaa.K
open Go Go.Proofs
theorem shl_1 {n : Nat} (h : n ≤ 30) : kBin .shl (.int .i64 1) (.int .i64 (n : Int)) = some (.int .i64 ((2 ^ n : Nat) : Int)) := by
  have hb : min ((n : Int)).toNat IntKind.i64.bits = n := by simp [IntKind.bits]; omega
  have hp : 2 ^ n ≤ 2 ^ 30 := Nat.pow_le_pow_right (by omega) h
  simp only [kBin, hb]
  rw [if_neg (by omega), Int.one_mul, show ((2 : Int) ^ n) = ((2 ^ n : Nat) : Int) by simp]
  generalize 2 ^ n = q at *
  rw [wi (by omega) (by omega)]
/-- a symbol's count -/
def ctn (c : List Int) (s : Nat) : Nat := (at0 c s).toNat
section
variable {H : Heap} {a : Option Addr} {cc : Nat} {c : List Int}
theorem cmp_flat {H0 : Heap} {b P : Nat} (hc : ∀ i, 0 ≤ at0 c i) (hl : Iv H0 a c) (hP : H0.get P = .cells [.slice a c.length cc] 38 true) (hbP : b ≠ P) (hba : ∀ x, a = some x → x.block ≠ b) :
    SrtQ (ltBy (ctn c)) (fun s => s < c.length) (.func (.func 123) #[] #[.pointer (some ⟨P, 0, none⟩)]) b H0 := by
  refine ⟨ltBy_ord _, fun H x y hA hx hy K hK => ?_⟩
  have gP : H.get P = .cells [.slice a c.length cc] 38 true := by rw [hA.2 P (Ne.symm hbP)]; exact hP
  obtain ⟨ba, o, cs, rw', rfl, hg, hcs⟩ := hl (by omega)
  have hg : H.get ba = .cells cs 3 rw' := by rw [hA.2 ba (hba _ rfl)]; exact hg
  have gx : c[x]? = some (at0 c x) := by rw [List.getElem?_eq_getElem hx]; unfold at0; rw [List.getD_eq_getElem?_getD, List.getElem?_eq_getElem hx]; rfl
  have gy : c[y]? = some (at0 c y) := by rw [List.getElem?_eq_getElem hy]; unfold at0; rw [List.getD_eq_getElem?_getD, List.getElem?_eq_getElem hy]; rfl
  have cx := hcs x _ gx
  have cy := hcs y _ gy
  simp
  refine w123 rfl rfl _ _ _ ?_
  simp [s123, gP, hx, hy, addOff, hg, cx, cy]
  refine (Compare_t _ _).mono ?_
  rintro v H' ⟨rfl, rfl⟩
  try simp
  refine hK _ ?_
  have h0 := hc x
  have h1 := hc y
  unfold cmpI ltBy ctn
  by_cases h2 : at0 c y < at0 c x
  · rw [if_pos h2]
    have h3 : (at0 c y).toNat < (at0 c x).toNat := by omega
    simp [h3]
  · rw [if_neg h2]
    have h3 : ¬ (at0 c y).toNat < (at0 c x).toNat := by omega
    split <;> simp [h3]
/-- the symbols are gathered -/
structure GfI (H0 : Heap) (a0 p0 o0 : Value) (c : List Int) (d : Nat) (e : Fe) (H : Heap) (i : Nat) : Prop where
  hi : i ≤ c.length
  h2 : d = c.length - i
  kp : Kp H0.next H0 H
  gn : Gn H0.next H (e 4) ((lvs c i).map (·.1))
  e1 : e 1 = p0
  e3 : e 3 = o0
  e14 : e 14 = a0
  e15 : e 15 = .int .i64 c.length
  e16 : e 16 = .int .i64 i
/-- the lengths are written -/
structure OfI (H0 : Heap) (c : List Int) (xs : List (Nat × Nat)) (N b long short : Nat) (d : Nat) (e : Fe) (H : Heap) (i : Nat) : Prop where
  hi : i ≤ xs.length
  h2 : d = xs.length - i
  nx : H.next = H0.next
  kp : ∀ k, k ≠ N → H.get k = H0.get k
  g : H.get N = .cells (ints (setA (List.replicate c.length 0) (flx long short 0 (xs.take i)))) 3 true
  e3 : e 3 = .slice (some ⟨N, 0, none⟩) c.length c.length
  e7 : e 7 = .int .i64 long
  e8 : e 8 = .int .i64 short
  e41 : e 41 = .slice (some ⟨b, 0, none⟩) xs.length capx
  e42 : e 42 = .int .i64 xs.length
  e43 : e 43 = .int .i64 i
theorem outs_t {H0 : Heap} {e : Fe} {Q : Kx} {xs : List (Nat × Nat)} {N b long short : Nat} (hNb : N ≠ b) (hx : ∀ x ∈ xs, x.1 < c.length) (hl : 1 ≤ long) (hl2 : long ≤ 100) (hn : xs.length ≤ 1000) (hb : H0.get b = .cells (nts (xs.map (·.1))) 3 true)
    (h : OfI H0 c xs N b long short xs.length e H 0)
    (hQ : ∀ e H, OfI H0 c xs N b long short 0 e H xs.length → Q (.exit 2) e H) : WL S b91_0 e H Q := by
  refine l91_0 S (fun d e H' => ∃ i, OfI H0 c xs N b long short d e H' i) xs.length ⟨0, h⟩ ?_
  rintro d e H1 ⟨i, hi, rfl, hn1, hk, hg, e3, e7, e8, e41, e42, e43⟩
  by_cases h3 : i < xs.length
  · have h3' : (i : Int) < xs.length := by omega
    obtain ⟨x, hxi⟩ : ∃ x, xs[i]? = some x := ⟨_, List.getElem?_eq_getElem h3⟩
    have hxm := hx x (List.mem_of_getElem? hxi)
    have hgb : H1.get b = .cells (nts (xs.map (·.1))) 3 true := by rw [hk b (Ne.symm hNb)]; exact hb
    have hci : (nts (xs.map (·.1)))[i]? = some (.int .i64 (x.1 : Int)) := nts_get (by rw [List.getElem?_map, hxi]; rfl)
    have w1 : IntKind.i64.wrap ((i : Int) + 1) = ((i + 1 : Nat) : Int) := by rw [wi (by omega) (by omega)]; omega
    have w2 : IntKind.i64.wrap ((long : Int) - 1) = ((long - 1 : Nat) : Int) := by rw [wi (by omega) (by omega)]; omega
    obtain ⟨lm, hlm⟩ : ∃ lm, lm = long - 1 := ⟨_, rfl⟩
    rw [← hlm] at w2
    obtain ⟨O, hO⟩ : ∃ O, O = setA (List.replicate c.length 0) (flx long short 0 (xs.take i)) := ⟨_, rfl⟩
    rw [← hO] at hg
    have hOl : (ints O).length = c.length := by rw [hO]; simp [ints, setA_len]
    have hlN := lt_cells hg
    have hxm' : (x.1 : Int) < c.length := by omega
    have s1 : kSt H1 (.pointer (some ⟨N, x.1, none⟩)) (.int .i64 (long : Int)) = some (H1.put N (.cells (ints (O.set x.1 (long : Int))) 3 true)) := by
      simp only [kSt, hg]
      rw [if_pos (by simp [oneC]; omega), ints_set]
    have hto : setA (List.replicate c.length 0) (flx long short 0 (xs.take (i + 1))) = O.set x.1 ((if i < short then lm else long : Nat) : Int) := by
      rw [List.take_add_one, hxi, Option.toList_some, flx_app, setA_app, ← hO]
      have : 0 + (xs.take i).length = i := by rw [List.length_take]; omega
      rw [this]
      simp only [flx, setA, List.foldl_cons, List.foldl_nil, hlm]
    by_cases h4 : i < short
    · have h4' : (i : Int) < short := by omega
      have s2 : kSt (H1.put N (.cells (ints (O.set x.1 (long : Int))) 3 true)) (.pointer (some ⟨N, x.1, none⟩)) (.int .i64 (lm : Int)) = some (H1.put N (.cells (ints (O.set x.1 (lm : Int))) 3 true)) := by
        simp only [kSt, get_put_eq hlN]
        rw [if_pos (by simp [oneC, ints]; simp [ints] at hOl; omega), ints_set, put_put, List.set_set]
      rw [if_pos h4] at hto
      simp [s91_0, e3, e7, e8, e41, e42, e43, h3, h3', addOff, hgb, hci, hxm, hxm', s1, h4, h4', w1, w2, s2]
      exact ⟨xs.length - (i + 1), by omega, i + 1, by omega, rfl, by rw [next_put]; exact hn1, fun k hk' => (get_put_ne hk').trans (hk k hk'), by rw [hto]; exact get_put_eq hlN, by simp [e3], by simp [e7], by simp [e8], by simp [e41], by simp [e42], by simp⟩
    · have h4' : ¬ (i : Int) < short := by omega
      rw [if_neg h4] at hto
      simp [s91_0, e3, e7, e8, e41, e42, e43, h3, h3', addOff, hgb, hci, hxm, hxm', s1, h4, h4', w1]
      exact ⟨xs.length - (i + 1), by omega, i + 1, by omega, rfl, by rw [next_put]; exact hn1, fun k hk' => (get_put_ne hk').trans (hk k hk'), by rw [hto]; exact get_put_eq hlN, by simp [e3], by simp [e7], by simp [e8], by simp [e41], by simp [e42], by simp⟩
  · obtain rfl : i = xs.length := by omega
    simp [s91_0, e42, e43]
    exact hQ _ _ ⟨by omega, by omega, hn1, hk, hg, by simp [e3], by simp [e7], by simp [e8], by simp [e41], by simp [e42], by simp [e43]⟩
theorem lvs_ctn (c : List Int) (n : Nat) : ((lvs c n).map (·.1)).map (fun s => (s, ctn c s)) = lvs c n := by
  rw [List.map_map]
  conv => rhs; rw [← List.map_id (lvs c n)]
  apply List.map_congr_left
  rintro ⟨s, w⟩ hx
  have := (lvs_mem.1 hx).2.2
  simp only at this
  simp [ctn, this]
/-- flat lengths, in memory -/
def FlatV (c : List Int) (v : Value) (H' : Heap) : Prop := ∃ N l W, v = .slice (some ⟨N, 0, none⟩) c.length c.length ∧ H'.get N = .cells (ints l) 3 true ∧
  W.Perm ((lvs c c.length).map (·.2)) ∧ W.Pairwise (fun a b => b ≤ a) ∧ LenOk c l (flatC W : Nat) ∧ ∀ B, BestIs c B → B ≤ flatC W
theorem flat_t (hl : Iv H a c) (hr : cright c = true) (h2 : 2 ≤ (lvs c c.length).length) :
    Wf S 91 [.slice a c.length cc] H fun v H' => Kp H.next H H' ∧ FlatV c v H' := by
  have hlen := cright_len hr
  have hcb := ct_bd (cright_bd hr)
  have hln := lvs_len c c.length
  refine w91 rfl rfl _ ?_
  obtain ⟨H1, hH1⟩ : ∃ H1, H1 = H.push (.cells [.slice a c.length cc] 38 true) := ⟨_, rfl⟩
  obtain ⟨P, hP⟩ : ∃ P, P = H.next := ⟨_, rfl⟩
  have gP : H1.get P = .cells [.slice a c.length cc] 38 true := by rw [hH1, hP]; exact get_last
  have n1 : H1.next = P + 1 := by rw [hH1, hP]; simp
  have hmks : kMks H1 3 [.int .i64 0] 8 (.int .i64 (c.length : Int)) (.int .i64 (c.length : Int)) = some (.slice (some ⟨H1.next, 0, none⟩) c.length c.length, H1.push (.cells (ints (List.replicate c.length 0)) 3 true)) := by
    simp only [kMks]
    rw [if_pos (by omega)]
    have : zeros [.int .i64 0] c.length = ints (List.replicate c.length 0) := by
      simp [zeros, ints]
    simp only [Int.toNat_natCast, this]
  obtain ⟨N, hN⟩ : ∃ N, N = H1.next := ⟨_, rfl⟩
  obtain ⟨H2, hH2⟩ : ∃ H2, H2 = H1.push (.cells (ints (List.replicate c.length 0)) 3 true) := ⟨_, rfl⟩
  have gN : H2.get N = .cells (ints (List.replicate c.length 0)) 3 true := by rw [hH2, hN]; exact get_last
  have gP2 : H2.get P = .cells [.slice a c.length cc] 38 true := by rw [hH2, get_old (by omega)]; exact gP
  have n2 : H2.next = N + 1 := by rw [hH2, hN]; simp
  have k02 : Kp H.next H H2 := by
    rw [hH2, hH1]
    exact (Kp.push (Nat.le_refl _)).trans (Kp.push (by simp))
  rw [← hH2, ← hN] at hmks
  simp [s91, isTup, cellsL]
  rw [← hH1, ← hP]
  simp [gP, hmks, gP2]
  refine l91_1 S (fun d e H' => ∃ i, GfI H2 (.slice a c.length cc) (.pointer (some ⟨P, 0, none⟩)) (.slice (some ⟨N, 0, none⟩) c.length c.length) c d e H' i) c.length ⟨0, by omega, by omega, Kp.refl _ _, .inl ⟨rfl, by simp⟩, by simp, by simp, by simp, by simp, by simp⟩ ?_
  rintro d e H3 ⟨i, hi, rfl, hk, hgn, e1, e3, e14, e15, e16⟩
  have k03 := k02.trans (hk.mono k02.1)
  by_cases h3 : i < c.length
  · obtain ⟨b, o, cs, rw, rfl, hgb, hc⟩ := (hl.kp k03) (by omega)
    obtain ⟨x, hx⟩ : ∃ x, c[i]? = some x := ⟨_, List.getElem?_eq_getElem h3⟩
    have hcx := hc i x hx
    have hw : IntKind.i64.wrap ((i : Int) + 1) = (i : Int) + 1 := wi (by omega) (by omega)
    have hat := at0_of hx
    by_cases h4 : 0 < x
    · obtain ⟨w, rfl⟩ : ∃ w : Nat, x = (w : Int) := ⟨x.toNat, by omega⟩
      have h4' : 0 < w := by omega
      have hyes : lvs c (i + 1) = lvs c i ++ [(i, w)] := by simp only [lvs]; rw [hat, if_pos h4]; simp
      have hll := lvs_len c i
      obtain ⟨v', H4, hrow, hap, hg2, hk2⟩ := hgn.app hk.1 (by simp; omega) i
      simp [s91_1, e1, e3, e14, e15, e16, h3, addOff, hgb, hcx, h4, h4', kFill, evPs, isTup, cellsL, wr, hw]
      rw [hrow]
      simp only [Option.bind_some, hap, oT_some]
      exact ⟨c.length - (i + 1), by omega, i + 1, by omega, rfl, hk.trans hk2, by rw [hyes, List.map_append]; simpa using hg2, by simp [e1], by simp [e3], by simp [e14], by simp [e15], by simp⟩
    · have hno : lvs c (i + 1) = lvs c i := by simp only [lvs]; rw [hat, if_neg h4]
      simp [s91_1, e1, e3, e14, e15, e16, h3, addOff, hgb, hcx, h4, hw]
      exact ⟨c.length - (i + 1), by omega, i + 1, by omega, rfl, hk, by rw [hno]; simpa using hgn, by simp [e1], by simp [e3], by simp [e14], by simp [e15], by simp⟩
  · obtain rfl : i = c.length := by omega
    obtain ⟨L, hL⟩ : ∃ L, L = (lvs c c.length).map (·.1) := ⟨_, rfl⟩
    rw [← hL] at hgn
    have hLl : L.length = (lvs c c.length).length := by rw [hL, List.length_map]
    rcases hgn with ⟨h, _⟩ | ⟨b, hb, e4, hgb⟩
    · rw [h] at hLl; simp at hLl; omega
    obtain ⟨m, hm⟩ : ∃ m, m = L.length - 1 := ⟨_, rfl⟩
    have w1 : IntKind.i64.wrap ((L.length : Int) - 1) = (m : Int) := by rw [wi (by omega) (by omega)]; omega
    have w2 : IntKind.u32.wrap (m : Int) = (m : Int) := by simp [IntKind.wrap, IntKind.signed, IntKind.bits]; omega
    simp [s91_1, e1, e3, e4, e14, e15, e16, w1, w2]
    refine (hWidth_t m (by omega)).mono ?_
    rintro v H4 ⟨rfl, rfl⟩
    obtain ⟨long, hlong⟩ : ∃ long, long = wd m := ⟨_, rfl⟩
    obtain ⟨b1, b2, b3, b4⟩ := wd_bd ⟨m, by omega⟩ (by simp; omega)
    simp only [← hlong] at b1 b2 b3 b4
    rw [← hlong]
    have hbN : N < b := by omega
    have hlq : L.toArray.size = L.length := by simp
    have hq : SrtQ (ltBy (ctn c)) (fun s => s < c.length) (.func (.func 123) #[] #[.pointer (some ⟨P, 0, none⟩)]) b H4 :=
      cmp_flat (fun i => (hcb i).1) (hl.kp k03) (by rw [hk.2 P (by omega)]; exact gP2) (by omega) (fun x hx => by
        obtain ⟨ba, o, cs, rw', rfl, hg, _⟩ := hl (by omega)
        cases hx
        have := lt_cells hg
        simp only
        omega)
    have hD : DQ (fun s => s < c.length) b H4 H4 L.toArray := by
      refine ⟨hgb, ⟨rfl, fun _ _ => rfl⟩, fun k hk' => ?_, by rw [hlq]; omega⟩
      have h1 := ix_get hk'
      rw [List.getElem?_toArray] at h1
      have h3 : ∀ s ∈ L, s < c.length := by
        rw [hL]
        intro s hs
        obtain ⟨x, hx, rfl⟩ := List.mem_map.1 hs
        exact (lvs_mem.1 hx).1
      exact h3 _ (List.mem_of_getElem? h1)
    have hst := sortStable_t (cc := capx) hq hD
    rw [hlq] at hst
    try simp [e1, e4]
    refine hst.mono ?_
    rintro v H5 ⟨l2, q2, p2, so2⟩
    have hl2 : l2.size = L.length := by have := p2.size; rw [hlq] at this; exact this
    have hpl : l2.toList.Perm L := by simpa using Array.perm_iff_toList_perm.1 p2.p
    obtain ⟨xs, hxs⟩ : ∃ xs, xs = l2.toList.map (fun s => (s, ctn c s)) := ⟨_, rfl⟩
    have hxl : xs.length = L.length := by rw [hxs, List.length_map]; simpa using hl2
    have hx1 : xs.map (·.1) = l2.toList := by rw [hxs, List.map_map]; simp [Function.comp_def]
    have hx2 : xs.map (·.2) = l2.toList.map (ctn c) := by rw [hxs, List.map_map]; rfl
    have hxp : xs.Perm (lvs c c.length) := by
      rw [hxs]
      have := hpl.map (fun s => (s, ctn c s))
      rw [hL, lvs_ctn] at this
      exact this
    have hfall : (xs.map (·.2)).Pairwise (fun a b => b ≤ a) := by rw [hx2]; exact srt_fall (by rw [hl2]; exact so2)
    obtain ⟨sh, hsh⟩ : ∃ sh, sh = 2 ^ long - L.length := ⟨_, rfl⟩
    obtain ⟨q, hq2⟩ : ∃ q, q = 2 ^ long := ⟨_, rfl⟩
    have hq30 : q ≤ 2 ^ 30 := hq2 ▸ Nat.pow_le_pow_right (by omega) (by omega)
    have w3 := shl_1 (n := long) (by omega)
    rw [← hq2] at w3
    have w4 : IntKind.i64.wrap ((q : Int) - L.length) = (sh : Int) := by rw [wi (by omega) (by omega)]; omega
    obtain ⟨ok1, ok2⟩ := flat_ok (fun i => (hcb i).1) hlen hxp (by omega) (long := long) (short := sh) (by rw [hxl, hlong, hm]) (by rw [hxl, hsh]) hfall
    have k35 : ∀ k, k ≠ b → H5.get k = H4.get k := q2.aside.2
    have n35 : H5.next = H4.next := q2.aside.1
    simp [e3, e4, w3, w4]
    refine outs_t (c := c) (H0 := H5) (xs := xs) (N := N) (b := b) (long := long) (short := sh) (by omega) (fun x hx => (lvs_mem.1 (hxp.mem_iff.1 hx)).1) b3 (by omega) (by omega) (by rw [hx1]; exact q2.g)
      ⟨Nat.zero_le _, by omega, rfl, fun _ _ => rfl, ?_, by simp [e3], by simp, by simp, by simp [hxl], by simp [hxl], by simp⟩ ?_
    · rw [k35 N (by omega), hk.2 N (by omega), gN]; rfl
    · rintro e' H6 ⟨_, _, n6, k6, g6, f3, f7, f8, f41, f42, f43⟩
      rw [List.take_length] at g6
      simp [f3, tup]
      refine ⟨⟨by rw [n6, n35]; exact k03.1, fun k hk' => by rw [k6 k (by omega), k35 k (by omega)]; exact k03.2 k (by omega)⟩, N, _, xs.map (·.2), rfl, g6, hxp.map _, hfall, ok1, ok2⟩
end
end Go.Proofs.Ytlboioplemlneaa.K
/- ref09.Flat, walked. -/
set_option maxRecDepth 100000
set_option maxHeartbeats 4000000
set_option linter.unusedVariables false
set_option linter.unusedSimpArgs false
namespace Go.Proofs.Ytlboioplemlneaa.K
open Go Go.Proofs
theorem p2_pow (n : Nat) : p2 n = ((2 ^ n : Nat) : Int) := by simp [p2]
theorem take_next {L : List Nat} {i x : Nat} (h : L[i]? = some x) : (L.take (i + 1)).sum = (L.take i).sum + x := by
  rw [List.take_add_one, h, Option.toList_some, List.sum_append, List.sum_singleton]
section
variable {H : Heap} {a : Option Addr} {cc : Nat} {c : List Int}
structure FsI (b : Nat) (H0 : Heap) (l : Array Nat) (i : Nat) (a0 t5 : Value) (d : Nat) (e : Fe) (H : Heap) (l' : Array Nat) : Prop where
  hd : d ≤ i
  hn : i < l.size
  q : DQ (fun _ => True) b H0 H l'
  pr : PR l l' 0 l.size
  ins : InsI (ltBy id) l' 0 i d
  e0 : e 0 = a0
  e3 : e 3 = .slice (some ⟨b, 0, none⟩) l.size capx
  e5 : e 5 = t5
  e6 : e 6 = .int .i64 i
  e7 : e 7 = .int .i64 d
theorem fsIn_t {H0 : Heap} {e : Fe} {Q : Kx} {b i : Nat} {l : Array Nat} {a0 t5 : Value} (h : FsI b H0 l i a0 t5 i e H l)
    (hQ : ∀ e H l', DQ (fun _ => True) b H0 H l' → PR l l' 0 l.size → Srt (ltBy id) l' 0 (i + 1) → (e 0 = a0 ∧ e 3 = .slice (some ⟨b, 0, none⟩) l.size capx ∧ e 5 = t5 ∧ e 6 = .int .i64 i) → Q (.exit 4) e H) :
    WL S b44_3 e H Q := by
  refine l44_3 S (fun d e H' => ∃ l', FsI b H0 l i a0 t5 d e H' l') i ⟨l, h⟩ ?_
  rintro d e H1 ⟨l1, hd, hin, hq, hp, hi, e0, e3, e5, e6, e7⟩
  have hsz := hp.size
  have hsm := hq.sz
  by_cases h1 : 0 < d
  · obtain ⟨m, hm⟩ : ∃ m, m = d - 1 := ⟨_, rfl⟩
    have h1' : (0 : Int) < d := by omega
    have w1 : IntKind.i64.wrap ((d : Int) - 1) = (m : Int) := by rw [wi (by omega) (by omega)]; omega
    have g1 := hq.at (i := d) (by omega)
    have g2 := hq.at (i := m) (by omega)
    have x1 : d < l.size := by omega
    have x2 : (d : Int) < l.size := by omega
    have y1 : m < l.size := by omega
    have y2 : (m : Int) < l.size := by omega
    obtain ⟨H2, H3, s1, s2, hq3⟩ := hq.sw (i := d) (j := m) (by omega) (by omega)
    by_cases hb : ix l1 m < ix l1 d
    · have hb' : ((ix l1 m : Nat) : Int) < ((ix l1 d : Nat) : Int) := by omega
      simp [s44_3, e0, e3, e5, e6, e7, h1, h1', w1, x1, x2, y1, y2, addOff, hq.g, g1, g2, hb, hb', s1, s2]
      subst hm
      exact ⟨d - 1, by omega, _, by omega, hin, hq3, hp.swap _ _ (by omega) (by omega) (by omega) (by omega), hi.step (ltBy_ord _) h1 hd (by simp [ltBy, hb]) _ _, by simp [e0], by simp [e3], by simp [e5], by simp [e6], by simp⟩
    · have hb' : ¬ ((ix l1 m : Nat) : Int) < ((ix l1 d : Nat) : Int) := by omega
      simp [s44_3, e0, e3, e5, e6, e7, h1, h1', w1, x1, x2, y1, y2, addOff, hq.g, g1, g2, hb, hb']
      subst hm
      exact hQ _ _ l1 hq hp (hi.stop (ltBy_ord _) h1 hd (by simp [ltBy, hb])) (by simp [e0, e3, e5, e6])
  · obtain rfl : d = 0 := by omega
    simp [s44_3, e7]
    exact hQ _ _ l1 hq hp hi.top (by simp [e0, e3, e5, e6])
structure FoI (b : Nat) (H0 : Heap) (l : Array Nat) (a0 t5 : Value) (d : Nat) (e : Fe) (H : Heap) (l' : Array Nat) (i : Nat) : Prop where
  hd : d = l.size - i
  hn : i ≤ l.size
  q : DQ (fun _ => True) b H0 H l'
  pr : PR l l' 0 l.size
  so : Srt (ltBy id) l' 0 i
  e0 : e 0 = a0
  e3 : e 3 = .slice (some ⟨b, 0, none⟩) l.size capx
  e5 : e 5 = t5
  e6 : e 6 = .int .i64 i
theorem fsOut_t {H0 : Heap} {e : Fe} {Q : Kx} {b : Nat} {l : Array Nat} {a0 t5 : Value} (h : FoI b H0 l a0 t5 l.size e H l 0)
    (hQ : ∀ e H l', FoI b H0 l a0 t5 0 e H l' l.size → Q (.exit 2) e H) : WL S b44_1 e H Q := by
  refine l44_1 S (fun d e H' => ∃ l' i, FoI b H0 l a0 t5 d e H' l' i) l.size ⟨l, 0, h⟩ ?_
  rintro d e H1 ⟨l1, i, rfl, hin, hq, hp, hso, e0, e3, e5, e6⟩
  have hsz := hp.size
  have hsm := hq.sz
  by_cases h : i < l.size
  · have h' : (i : Int) < l.size := by omega
    have w2 : IntKind.i64.wrap ((i : Int) + 1) = ((i + 1 : Nat) : Int) := by rw [wi (by omega) (by omega)]; omega
    simp [s44_1, e0, e3, e5, e6, h, h']
    refine fsIn_t (l := l1) (b := b) (i := i) (a0 := a0) (t5 := t5) ⟨by omega, by omega, hq, PR.refl _ _ _, InsI.start hso, by simp [e0], by simp [e3, hsz], by simp [e5], by simp [e6], by simp [e6]⟩ ?_
    rintro e' H2 l2 q2 p2 so2 ⟨f0, f3, f5, f6⟩
    simp [f6, w2]
    rw [hsz] at p2
    exact ⟨l.size - (i + 1), by omega, l2, i + 1, rfl, by omega, q2, hp.trans p2, so2, by simp [f0], by simp [f3, hsz], by simp [f5], by simp⟩
  · obtain rfl : i = l.size := by omega
    simp [s44_1, e3, e6]
    exact hQ _ _ l1 ⟨by omega, by omega, hq, hp, hso, by simp [e0], by simp [e3], by simp [e5], by simp [e6]⟩
structure FcI (W : List Nat) (long short b : Nat) (HB : Heap) (d : Nat) (e : Fe) (H : Heap) (i : Nat) : Prop where
  hd : d = W.length - i
  hi : i ≤ W.length
  hH : H = HB
  e3 : e 3 = .slice (some ⟨b, 0, none⟩) W.length capx
  e5 : e 5 = .int .i64 long
  e9 : ∃ x : Nat, e 9 = .int .i64 x ∧ x + (W.take (min i short)).sum = (W.take i).sum * long
  e10 : e 10 = .int .i64 i
theorem fc_t {e : Fe} {Q : Kx} {W : List Nat} {long short b : Nat} (hW : ∀ x ∈ W, x ≤ 1048576) (hlen : W.length ≤ 256) (hl1 : 1 ≤ long) (hl2 : long ≤ 8) (hsh : short = 2 ^ long - W.length) (hge : W.length ≤ 2 ^ long) (hg : H.get b = .cells (nts W) 3 true)
    (h : FcI W long short b H W.length e H 0) (hQ : ∀ e, FcI W long short b H 0 e H W.length → Q (.exit 6) e H) : WL S b44_0 e H Q := by
  refine l44_0 S (fun d e H' => ∃ i, FcI W long short b H d e H' i) W.length ⟨0, h⟩ ?_
  rintro d e H1 ⟨i, rfl, hi, rfl, e3, e5, ⟨x, e9, hx⟩, e10⟩
  by_cases h : i < W.length
  · have h' : (i : Int) < W.length := by omega
    have gi := nx_get h
    have ci := nts_get gi
    obtain ⟨w, hw⟩ : ∃ w, w = nx W i := ⟨_, rfl⟩
    rw [← hw] at ci gi
    have hwb := hW w (List.mem_of_getElem? gi)
    have htk := take_next gi
    obtain ⟨wl, hwl⟩ : ∃ wl, wl = w * long := ⟨_, rfl⟩
    have hwl1 : w ≤ wl := by
      have := Nat.mul_le_mul_left w hl1
      omega
    have hwl2 : wl ≤ 1048576 * 8 := by rw [hwl]; exact Nat.mul_le_mul hwb hl2
    have hsm : (W.take i).sum * long ≤ 256 * 1048576 * 8 := by
      refine Nat.mul_le_mul ?_ hl2
      have h1 := take_sum_le W i
      have h2 := sum_le (l := W) (b := 1048576) hW
      have h3 : W.length * 1048576 ≤ 256 * 1048576 := Nat.mul_le_mul_right _ hlen
      omega
    obtain ⟨SL, hSL⟩ : ∃ SL, SL = (W.take i).sum * long := ⟨_, rfl⟩
    rw [← hSL] at hsm hx
    have htk2 : (W.take (i + 1)).sum * long = SL + wl := by rw [htk, Nat.add_mul, ← hwl, ← hSL]
    have w1 : IntKind.i64.wrap ((w : Int) * long) = (wl : Int) := by
      rw [show (w : Int) * long = ((w * long : Nat) : Int) by simp, ← hwl, wi (by omega) (by omega)]
    have w2 : IntKind.i64.wrap ((x : Int) + wl) = ((x + wl : Nat) : Int) := by rw [wi (by omega) (by omega)]; omega
    have w3 : IntKind.i64.wrap ((i : Int) + 1) = ((i + 1 : Nat) : Int) := by rw [wi (by omega) (by omega)]; omega
    obtain ⟨y, hy⟩ : ∃ y, y = x + wl := ⟨_, rfl⟩
    rw [← hy] at w2
    have w4 : IntKind.i64.wrap ((y : Int) - w) = ((y - w : Nat) : Int) := by rw [wi (by omega) (by omega)]; omega
    obtain ⟨z, hz⟩ : ∃ z, z = y - w := ⟨_, rfl⟩
    rw [← hz] at w4
    obtain ⟨q, hq⟩ : ∃ q, q = 2 ^ long := ⟨_, rfl⟩
    have hq30 : q ≤ 2 ^ 8 := hq ▸ Nat.pow_le_pow_right (by omega) (by omega)
    rw [← hq] at hsh hge
    have w5 : IntKind.i64.wrap ((q : Int) - W.length) = (short : Int) := by rw [wi (by omega) (by omega)]; omega
    have hwd : wl = w * long := hwl
    simp [s44_0, e3, e5, e9, e10, h, h', addOff, hg, ci, w1, w2]
    refine (Size_t _ long (by omega)).mono ?_
    rintro v H2 ⟨rfl, rfl⟩
    rw [p2_pow, ← hq]
    by_cases h4 : i < short
    · have h4' : (i : Int) < short := by omega
      simp [e3, w5, e10, h, h', h4, h4', addOff, hg, ci, w3, w4]
      refine ⟨W.length - (i + 1), by omega, i + 1, rfl, by omega, rfl, by simp [e3], by simp [e5], ⟨z, by simp, ?_⟩, by simp⟩
      rw [show min (i + 1) short = i + 1 by omega, htk2]
      rw [show min i short = i by omega] at hx
      omega
    · have h4' : ¬ (i : Int) < short := by omega
      simp [e3, w5, e10, h, h', h4, h4', addOff, hg, ci, w3, w4]
      refine ⟨W.length - (i + 1), by omega, i + 1, rfl, by omega, rfl, by simp [e3], by simp [e5], ⟨y, by simp, ?_⟩, by simp⟩
      rw [show min (i + 1) short = short by omega, htk2]
      rw [show min i short = short by omega] at hx
      omega
  · obtain rfl : i = W.length := by omega
    simp [s44_0, e3, e10]
    exact hQ _ ⟨by omega, by omega, rfl, by simp [e3], by simp [e5], ⟨x, by simp [e9], hx⟩, by simp [e10]⟩
/-- the document's answer: any number for one symbol alone; the flattest codes' cost -/
def FlatR (c : List Int) (v : Value) : Prop := ∃ F : Int, v = .int .i64 F ∧ ∀ W : List Nat, 2 ≤ W.length → W.Perm ((lvs c c.length).map (·.2)) → W.Pairwise (fun a b => b ≤ a) → F = (flatC W : Nat)
theorem rFlat_t (hl : Iv H a c) (hr : cright c = true) :
    Wf S 44 [.slice a c.length cc] H fun v H' => Kp H.next H H' ∧ FlatR c v := by
  have hlen := cright_len hr
  have hbd := cright_bd hr
  have hsome := cright_some hr
  refine w44 rfl rfl _ ?_
  simp [s44]
  refine l44_2 S (fun d e H' => ∃ i, GaI H (.slice a c.length cc) c d e H' i) c.length ⟨0, by omega, by omega, Kp.refl _ _, .inl ⟨rfl, by simp⟩, by simp, by simp⟩ ?_
  rintro d e H1 ⟨i, hi, rfl, hk, hg, e0, e4⟩
  by_cases h3 : i < c.length
  · obtain ⟨b, o, cs, rw, rfl, hgb, hc⟩ := (hl.kp hk) (by omega)
    obtain ⟨x, hx⟩ : ∃ x, c[i]? = some x := ⟨_, List.getElem?_eq_getElem h3⟩
    have hcx := hc i x hx
    have hw : IntKind.i64.wrap ((i : Int) + 1) = (i : Int) + 1 := wi (by omega) (by omega)
    have hat := at0_of hx
    by_cases h4 : 0 < x
    · obtain ⟨w, rfl⟩ : ∃ w : Nat, x = (w : Int) := ⟨x.toNat, by omega⟩
      have h4' : 0 < w := by omega
      have hyes : lvs c (i + 1) = lvs c i ++ [(i, w)] := by simp only [lvs]; rw [hat, if_pos h4]; simp
      have hll := lvs_len c i
      obtain ⟨v', H2, hrow, hap, hg2, hk2⟩ := hg.app hk.1 (by simp; omega) w
      simp [s44_2, e0, e4, h3, addOff, hgb, hcx, h4, h4', kFill, evPs, isTup, cellsL, wr, hw]
      rw [hrow]
      simp only [Option.bind_some, hap, oT_some]
      exact ⟨c.length - (i + 1), by omega, i + 1, by omega, rfl, hk.trans hk2, by rw [hyes, List.map_append]; simpa using hg2, by simp [e0], by simp⟩
    · have hno : lvs c (i + 1) = lvs c i := by simp only [lvs]; rw [hat, if_neg h4]
      simp [s44_2, e0, e4, h3, addOff, hgb, hcx, h4, hw]
      exact ⟨c.length - (i + 1), by omega, i + 1, by omega, rfl, hk, by rw [hno]; simpa using hg, by simp [e0], by simp⟩
  · obtain rfl : i = c.length := by omega
    obtain ⟨L, hL⟩ : ∃ L, L = (lvs c c.length).map (·.2) := ⟨_, rfl⟩
    rw [← hL] at hg
    have hLl : L.length = (lvs c c.length).length := by rw [hL, List.length_map]
    have hle := lvs_len c c.length
    rcases hg with ⟨h, _⟩ | ⟨b, hb, e3, hgb⟩
    · rw [h] at hLl; simp at hLl; omega
    by_cases h6 : L.length = 1
    · obtain ⟨z, hz⟩ : ∃ z, L = [z] := by
        match L, h6 with
        | [z], _ => exact ⟨z, rfl⟩
      have hres : FlatR c (.int .i64 (z : Int)) := ⟨_, rfl, fun W h1 h2 _ => by
        have := h2.length_eq
        rw [← hL, h6] at this; omega⟩
      rw [hz] at e3 hgb
      have c0 : (nts [z])[0]? = some (.int .i64 (z : Int)) := rfl
      simp [s44_2, e0, e4, e3, addOff, hgb, c0, tup]
      exact ⟨hk, hres⟩
    · have h6' : ¬ (L.length : Int) = 1 := by omega
      have hLx : ∀ x ∈ L, x ≤ 1048576 := fun x hx => by
        rw [hL] at hx
        obtain ⟨u, hu, rfl⟩ := List.mem_map.1 hx
        exact lvs_le hbd (ct_bd hbd) _ u hu
      obtain ⟨m, hm⟩ : ∃ m, m = L.length - 1 := ⟨_, rfl⟩
      have w1 : IntKind.i64.wrap ((L.length : Int) - 1) = (m : Int) := by rw [wi (by omega) (by omega)]; omega
      have w2 : IntKind.u32.wrap (m : Int) = (m : Int) := by simp [IntKind.wrap, IntKind.signed, IntKind.bits]; omega
      simp [s44_2, e0, e4, e3, h6, h6', w1, w2]
      refine (rWidth_t m (by omega)).mono ?_
      rintro v H4 ⟨rfl, rfl⟩
      obtain ⟨long, hlong⟩ : ∃ long, long = wd m := ⟨_, rfl⟩
      obtain ⟨b1, b2, b3, b4⟩ := wd_bd ⟨m, by omega⟩ (by simp; omega)
      simp only [← hlong] at b1 b2 b3 b4
      rw [← hlong]
      have hlq : L.toArray.size = L.length := by simp
      have hD : DQ (fun _ => True) b H4 H4 L.toArray := ⟨hgb, ⟨rfl, fun _ _ => rfl⟩, fun _ _ => trivial, by rw [hlq]; omega⟩
      try simp
      refine fsOut_t (b := b) (H0 := H4) (l := L.toArray) (a0 := .slice a c.length cc) (t5 := .int .i64 long) ⟨by omega, by omega, hD, PR.refl _ _ _, Srt.small (by omega), by simp [e0], by simp [e3], by simp, by simp⟩ ?_
      rintro e' H5 l2 ⟨_, _, q2, p2, so2, f0, f3, f5, f6⟩
      have hl2 : l2.size = L.length := by have := p2.size; rw [hlq] at this; exact this
      have hpl : l2.toList.Perm L := by simpa using Array.perm_iff_toList_perm.1 p2.p
      have hl2' : l2.toList.length = L.length := by simpa using hl2
      rw [hlq] at f3
      have hfall := srt_fall (f := id) (l := l2) (by rw [hl2, ← hlq]; exact so2)
      rw [List.map_id] at hfall
      obtain ⟨q, hq⟩ : ∃ q, q = 2 ^ long := ⟨_, rfl⟩
      simp
      refine fc_t (W := l2.toList) (long := long) (short := 2 ^ long - L.length) (b := b) (fun x hx => hLx x (hpl.mem_iff.1 hx)) (by rw [hl2']; omega) b3 b4 (by rw [hl2']) (by rw [hl2']; omega) q2.g
        ⟨by omega, by omega, rfl, by simp [f3, hl2], by simp [f5], ⟨0, by simp, by simp⟩, by simp⟩ ?_
      rintro e2 ⟨_, _, _, g3, g5, ⟨x, g9, hx⟩, g10⟩
      simp [g9, tup]
      refine ⟨⟨by rw [q2.aside.1]; exact hk.1, fun k hk' => by rw [q2.aside.2 k (by omega)]; exact hk.2 k hk'⟩, _, rfl, fun W h1 h2 h3 => ?_⟩
      have hWe : W = l2.toList := fall_eq h3 hfall (h2.trans (by rw [← hL]; exact hpl.symm))
      rw [hWe]
      unfold flatC
      rw [hl2', ← hm, ← hlong]
      rw [hl2'] at hx
      have hmn : min L.length (2 ^ long - L.length) = 2 ^ long - L.length := by
        have e2 : 2 ^ long = 2 * 2 ^ (long - 1) := by
          obtain ⟨L', hL'⟩ : ∃ L', long = L' + 1 := ⟨long - 1, by omega⟩
          rw [hL', Nat.add_sub_cancel, Nat.pow_succ]; omega
        omega
      rw [hmn, List.take_of_length_le (Nat.le_of_eq hl2')] at hx
      omega
end
end Go.Proofs.Ytlboioplemlneaa.K
/- The cost of lengths, by the program. -/
set_option maxRecDepth 100000
set_option maxHeartbeats 2000000
set_option linter.unusedVariables false
set_option linter.unusedSimpArgs false
namespace Go.Proofs.Ytlboioplemlneaa.K
open Go Go.Proofs
def cbad (c l : List Int) (k : Nat) : Prop := 0 < at0 c k ∧ at0 l k = 0
instance (c l : List Int) (k : Nat) : Decidable (cbad c l k) := by unfold cbad; infer_instance
def NoBad (c l : List Int) (i : Nat) : Prop := ∀ k, k < i → ¬ cbad c l k
instance (c l : List Int) (i : Nat) : Decidable (NoBad c l i) := by unfold NoBad; infer_instance
def prod (c l : List Int) (k : Nat) : Int := at0 c k * at0 l k
def costT (c l : List Int) : Value := if NoBad c l c.length then .tuple #[.int .i64 (sumTo (prod c l) c.length), .bool true] else .tuple #[.int .i64 0, .bool false]
theorem costT_bad {c l : List Int} {i : Nat} (hi : i < c.length) (h : cbad c l i) : costT c l = .tuple #[.int .i64 0, .bool false] := by
  unfold costT; rw [if_neg fun hn => hn i hi h]
theorem nobad_succ {c l : List Int} {i : Nat} (h : NoBad c l i) (hb : ¬ cbad c l i) : NoBad c l (i + 1) := fun k hk => by
  by_cases e : k = i
  · subst e; exact hb
  · exact h k (by omega)
theorem prod_bd {c l : List Int} (hc : AllC c) (hl : ∀ k, 0 ≤ at0 l k ∧ at0 l k ≤ 11) (k : Nat) : 0 ≤ prod c l k ∧ prod c l k ≤ 11534336 := by
  have h1 := allc_at0 hc k
  have h2 := hl k
  unfold prod
  constructor
  · exact Int.mul_nonneg h1.1 h2.1
  · have a : at0 c k * at0 l k ≤ 1048576 * at0 l k := Int.mul_le_mul_of_nonneg_right h1.2 h2.1
    omega
theorem psum_bd {c l : List Int} (hc : AllC c) (hl : ∀ k, 0 ≤ at0 l k ∧ at0 l k ≤ 11) (i : Nat) : 0 ≤ sumTo (prod c l) i ∧ sumTo (prod c l) i ≤ 11534336 * i := by
  induction i with
  | zero => simp [sumTo]
  | succ i ih => have := prod_bd hc hl i; simp only [sumTo]; omega
theorem cright_all {c : List Int} (h : cright c = true) : AllC c ∧ c.length ≤ 256 := by
  simp only [cright, Bool.and_eq_true, decide_eq_true_eq] at h
  exact ⟨h.1, h.2.2⟩
section
variable {H : Heap} {a1 a2 : Option Addr} {c1 c2 : Nat} {c l : List Int}
theorem Cost_t (hc : Iv H a1 c) (hl : Iv H a2 l) (hm1 : (c.length : Int) ≤ 9223372036854775807) (hm2 : (l.length : Int) ≤ 9223372036854775807) :
    Wf S 43 [.slice a1 c.length c1, .slice a2 l.length c2] H fun v H' => H' = H ∧ v = if cright c = true ∧ c.length ≤ l.length ∧ rightB l = true then costT c l else .tuple #[.int .i64 0, .bool false] := by
  refine w43 rfl rfl _ _ ?_
  simp [s43]
  refine (cRight_t hc hm1).mono ?_
  rintro v H1 ⟨rfl, rfl⟩
  by_cases g1 : cright c = true
  · by_cases g2 : c.length ≤ l.length
    · have g2' : ¬ (l.length : Int) < c.length := by omega
      have g2'' : ¬ l.length < c.length := by omega
      simp [g1, g2', g2'']
      refine (right_t hl hm2).mono ?_
      rintro v H2 ⟨rfl, rfl⟩
      by_cases g3 : rightB l = true
      · obtain ⟨hall, hlen⟩ := cright_all g1
        have hla := right_all g3
        simp [g1, g2, g3]
        refine l43_0 S (fun d e H' => ∃ i : Nat, i ≤ c.length ∧ d = c.length - i ∧ H' = H2 ∧ e 1 = .slice a2 l.length c2 ∧ e 6 = .int .i64 (sumTo (prod c l) i) ∧ e 24 = .slice a1 c.length c1 ∧ e 25 = .int .i64 c.length ∧ e 26 = .int .i64 i ∧ NoBad c l i) c.length ⟨0, by omega, by omega, rfl, by simp, by simp [sumTo], by simp, by simp, by simp, fun k hk => by omega⟩ ?_
        rintro d e H' ⟨i, hi, rfl, rfl, e1, e6, e24, e25, e26, hnb⟩
        by_cases h3 : i < c.length
        · obtain ⟨b1, o1, cs1, rw1, rfl, hg1, hcs1⟩ := hc (by omega)
          obtain ⟨b2, o2, cs2, rw2, rfl, hg2, hcs2⟩ := hl (by omega)
          obtain ⟨x, hx⟩ : ∃ x, c[i]? = some x := ⟨_, List.getElem?_eq_getElem h3⟩
          obtain ⟨y, hy⟩ : ∃ y, l[i]? = some y := ⟨_, List.getElem?_eq_getElem (by omega)⟩
          have hcx := hcs1 i x hx
          have hcy := hcs2 i y hy
          have hil : i < l.length := by omega
          have hax := at0_of hx
          have hay := at0_of hy
          have hw : IntKind.i64.wrap ((i : Int) + 1) = (i : Int) + 1 := wi (by omega) (by omega)
          have hp := prod_bd hall hla i
          have hs := psum_bd hall hla i
          have hpe : prod c l i = x * y := by unfold prod; rw [hax, hay]
          rw [hpe] at hp
          have hw2 : IntKind.i64.wrap (x * y) = x * y := wi (by omega) (by omega)
          have hw3 : IntKind.i64.wrap (sumTo (prod c l) i + x * y) = sumTo (prod c l) i + x * y := wi (by omega) (by omega)
          by_cases q1 : 0 < x
          · by_cases q2 : y = 0
            · have hb : cbad c l i := by unfold cbad; rw [hax, hay]; exact ⟨q1, q2⟩
              rw [costT_bad h3 hb]
              subst q2
              simp [s43_0, e1, e6, e24, e25, e26, h3, hil, addOff, hg1, hg2, hcx, hcy, q1, tup]
            · have hb : ¬ cbad c l i := by unfold cbad; rw [hax, hay]; exact fun h => q2 h.2
              simp [s43_0, e1, e6, e24, e25, e26, h3, hil, addOff, hg1, hg2, hcx, hcy, q1, q2, hw, hw2, hw3]
              exact ⟨c.length - (i + 1), by omega, i + 1, by omega, rfl, by simp [sumTo, hpe], by omega, nobad_succ hnb hb⟩
          · have hb : ¬ cbad c l i := by unfold cbad; rw [hax]; exact fun h => q1 h.1
            simp [s43_0, e1, e6, e24, e25, e26, h3, hil, addOff, hg1, hg2, hcx, hcy, q1, hw, hw2, hw3]
            exact ⟨c.length - (i + 1), by omega, i + 1, by omega, rfl, by simp [sumTo, hpe], by omega, nobad_succ hnb hb⟩
        · have h5 : i = c.length := by omega
          subst h5
          simp [s43_0, e6, e25, e26, tup, costT, hnb]
      · simp [g1, g2, g3, tup]
    · have g2' : (l.length : Int) < c.length := by omega
      have g2'' : l.length < c.length := by omega
      simp [g1, g2, g2', g2'', tup]
  · simp [g1, tup]
end
end Go.Proofs.Ytlboioplemlneaa.K
/- The cost of lengths, by the document. -/
set_option maxRecDepth 100000
set_option maxHeartbeats 2000000
set_option linter.unusedVariables false
set_option linter.unusedSimpArgs false
namespace Go.Proofs.Ytlboioplemlneaa.K
open Go Go.Proofs
section
variable {H : Heap} {a1 a2 : Option Addr} {c1 c2 : Nat} {c l : List Int}
theorem rCost_t (hc : Iv H a1 c) (hl : Iv H a2 l) (g1 : cright c = true) (g2 : c.length ≤ l.length) (g3 : rightB l = true) :
    Wf S 41 [.slice a1 c.length c1, .slice a2 l.length c2] H fun v H' => H' = H ∧ v = costT c l := by
  refine w41 rfl rfl _ _ ?_
  obtain ⟨hall, hlen⟩ := cright_all g1
  have hla := right_all g3
  simp [s41]
  refine l41_0 S (fun d e H' => ∃ i : Nat, i ≤ c.length ∧ d = c.length - i ∧ H' = H ∧ e 0 = .slice a1 c.length c1 ∧ e 1 = .slice a2 l.length c2 ∧ e 6 = .int .i64 (sumTo (prod c l) i) ∧ e 7 = .int .i64 i ∧ NoBad c l i) c.length ⟨0, by omega, by omega, rfl, by simp, by simp, by simp [sumTo], by simp, fun k hk => by omega⟩ ?_
  rintro d e H' ⟨i, hi, rfl, rfl, e0, e1, e6, e7, hnb⟩
  by_cases h3 : i < c.length
  · obtain ⟨b1, o1, cs1, rw1, rfl, hg1, hcs1⟩ := hc (by omega)
    obtain ⟨b2, o2, cs2, rw2, rfl, hg2, hcs2⟩ := hl (by omega)
    obtain ⟨x, hx⟩ : ∃ x, c[i]? = some x := ⟨_, List.getElem?_eq_getElem h3⟩
    obtain ⟨y, hy⟩ : ∃ y, l[i]? = some y := ⟨_, List.getElem?_eq_getElem (by omega)⟩
    have hcx := hcs1 i x hx
    have hcy := hcs2 i y hy
    have hil : i < l.length := by omega
    have hax := at0_of hx
    have hay := at0_of hy
    have hw : IntKind.i64.wrap ((i : Int) + 1) = (i : Int) + 1 := wi (by omega) (by omega)
    have hp := prod_bd hall hla i
    have hs := psum_bd hall hla i
    have hpe : prod c l i = x * y := by unfold prod; rw [hax, hay]
    rw [hpe] at hp
    have hw2 : IntKind.i64.wrap (x * y) = x * y := wi (by omega) (by omega)
    have hw3 : IntKind.i64.wrap (sumTo (prod c l) i + x * y) = sumTo (prod c l) i + x * y := wi (by omega) (by omega)
    by_cases q1 : 0 < x
    · by_cases q2 : y = 0
      · have hb : cbad c l i := by unfold cbad; rw [hax, hay]; exact ⟨q1, q2⟩
        rw [costT_bad h3 hb]
        subst q2
        simp [s41_0, e0, e1, e6, e7, h3, hil, addOff, hg1, hg2, hcx, hcy, q1, tup]
      · have hb : ¬ cbad c l i := by unfold cbad; rw [hax, hay]; exact fun h => q2 h.2
        simp [s41_0, e0, e1, e6, e7, h3, hil, addOff, hg1, hg2, hcx, hcy, q1, q2, hw, hw2, hw3]
        exact ⟨c.length - (i + 1), by omega, i + 1, by omega, rfl, by simp [sumTo, hpe], by omega, nobad_succ hnb hb⟩
    · have hb : ¬ cbad c l i := by unfold cbad; rw [hax]; exact fun h => q1 h.1
      simp [s41_0, e0, e1, e6, e7, h3, hil, addOff, hg1, hg2, hcx, hcy, q1, hw, hw2, hw3]
      exact ⟨c.length - (i + 1), by omega, i + 1, by omega, rfl, by simp [sumTo, hpe], by omega, nobad_succ hnb hb⟩
  · have h5 : i = c.length := by omega
    subst h5
    simp [s41_0, e0, e6, e7, tup, costT, hnb]
end
end Go.Proofs.Ytlboioplemlneaa.K
/- Codes of unlike lengths: the document's codes, and whether numbers are the same. -/
set_option maxRecDepth 100000
set_option maxHeartbeats 2000000
set_option linter.unusedVariables false
set_option linter.unusedSimpArgs false
namespace Go.Proofs.Ytlboioplemlneaa.K
open Go Go.Proofs
section
variable {H : Heap} {a : Option Addr} {c : Nat} {l : List Int}
theorem before_bd {l : List Int} (hall : ∀ k, 0 ≤ at0 l k ∧ at0 l k ≤ 11) (x : Int) (s k : Nat) : 0 ≤ sumTo (before l x s) k ∧ sumTo (before l x s) k ≤ 1024 * k := by
  induction k with
  | zero => simp [sumTo]
  | succ k ih =>
    have h1 := before_nonneg l x s k
    have h2 : before l x s k ≤ 1024 := by
      unfold before
      split
      · exact part_le (by omega)
      · omega
    simp only [sumTo]; omega
theorem ahead_in {i : Nat} {x : Int} {e : Fe} {Q : Kx} (hl : Iv H a l) (hlen : l.length ≤ 256) (hall : ∀ k, 0 ≤ at0 l k ∧ at0 l k ≤ 11) (hx : l[i]? = some x) (e0 : e 0 = .slice a l.length c) (e4 : e 4 = .int .i64 i) (e5 : e 5 = .int .i64 0) (e6 : e 6 = .int .i64 0)
    (hQ : ∀ e', e' 0 = .slice a l.length c → e' 3 = e 3 → e' 4 = .int .i64 i → e' 5 = .int .i64 (ahead l x i) → Q (.exit 2) e' H) : WL S b108_1 e H Q := by
  refine l108_1 S (fun d e' H' => ∃ k : Nat, k ≤ l.length ∧ d = l.length - k ∧ H' = H ∧ e' 0 = .slice a l.length c ∧ e' 3 = e 3 ∧ e' 4 = .int .i64 i ∧ e' 5 = .int .i64 (sumTo (before l x i) k) ∧ e' 6 = .int .i64 k) l.length ⟨0, by omega, by omega, rfl, e0, rfl, e4, by simpa [sumTo] using e5, e6⟩ ?_
  rintro d e' H' ⟨k, hk, rfl, rfl, f0, f3, f4, f5, f6⟩
  by_cases h3 : k < l.length
  · obtain ⟨b, o, cs, rw, rfl, hg, hc⟩ := hl (by omega)
    obtain ⟨y, hy⟩ : ∃ y, l[k]? = some y := ⟨_, List.getElem?_eq_getElem h3⟩
    have hcy := hc k y hy
    have hcx := hc i x hx
    have hi := (List.getElem?_eq_some_iff.1 hx).1
    have hay := at0_of hy
    have hyb := hall k
    rw [hay] at hyb
    have hw : IntKind.i64.wrap ((k : Int) + 1) = (k : Int) + 1 := wi (by omega) (by omega)
    have hbd := before_bd hall x i k
    have hpl : 0 < y → part y ≤ 1024 := fun h => part_le (by omega)
    have hpp := part_pos y
    have hw2 : IntKind.i64.wrap (11 - y) = ((11 - y).toNat : Int) := by rw [wi (by omega) (by omega)]; omega
    by_cases g : 0 < y ∧ (y < x ∨ y = x ∧ k < i)
    · have hbe : before l x i k = part y := by unfold before; rw [hay, if_pos g]
      have hpl' := hpl g.1
      have hw4 : IntKind.i64.wrap (sumTo (before l x i) k + part y) = sumTo (before l x i) k + part y := wi (by omega) (by omega)
      have hpe : p2 (11 - y).toNat = part y := rfl
      by_cases g2 : y < x
      · simp [s108_1, f0, f4, f5, f6, h3, hi, addOff, hg, hcy, hcx, g.1, g2]
        rw [hw2]
        refine (Size_t H' (11 - y).toNat (by omega)).mono ?_
        rintro v H2 ⟨rfl, rfl⟩
        simp [f0, f3, f4, f5, f6, hpe, hw, hw4]
        exact ⟨l.length - (k + 1), by omega, k + 1, by omega, rfl, by simp [sumTo, hbe], by omega⟩
      · have g3 : y = x := by omega
        have g4 : k < i := by omega
        subst g3
        simp [s108_1, f0, f4, f5, f6, h3, hi, addOff, hg, hcy, hcx, g.1, g4]
        rw [hw2]
        refine (Size_t H' (11 - y).toNat (by omega)).mono ?_
        rintro v H2 ⟨rfl, rfl⟩
        simp [f0, f3, f4, f5, f6, hpe, hw, hw4]
        exact ⟨l.length - (k + 1), by omega, k + 1, by omega, rfl, by simp [sumTo, hbe], by omega⟩
    · have hbe : before l x i k = 0 := by unfold before; rw [hay, if_neg g]
      by_cases g1 : 0 < y
      · have g2 : ¬ y < x := fun e => g ⟨g1, .inl e⟩
        by_cases g3 : y = x
        · have g4 : ¬ k < i := fun e => g ⟨g1, .inr ⟨g3, e⟩⟩
          subst g3
          simp [s108_1, f0, f3, f4, f5, f6, h3, hi, addOff, hg, hcy, hcx, g1, g4, hw]
          exact ⟨l.length - (k + 1), by omega, k + 1, by omega, rfl, by simp [sumTo, hbe], by omega⟩
        · simp [s108_1, f0, f3, f4, f5, f6, h3, hi, addOff, hg, hcy, hcx, g1, g2, g3, hw]
          exact ⟨l.length - (k + 1), by omega, k + 1, by omega, rfl, by simp [sumTo, hbe], by omega⟩
      · simp [s108_1, f0, f3, f4, f5, f6, h3, hi, addOff, hg, hcy, hcx, g1, hw]
        exact ⟨l.length - (k + 1), by omega, k + 1, by omega, rfl, by simp [sumTo, hbe], by omega⟩
  · have h5 : k = l.length := by omega
    subst h5
    simp [s108_1, f0, f6]
    exact hQ _ (by simp [f0]) (by simp [f3]) (by simp [f4]) (by simp [f5, ahead])
def upto (l : List Int) (i : Nat) : List Int := (List.range l.length).map fun k => if k < i then codeOf l k else 0
theorem upto_len (l : List Int) (i : Nat) : (upto l i).length = l.length := by simp [upto]
theorem upto_get {i k : Nat} (hk : k < l.length) : (upto l i)[k]? = some (if k < i then codeOf l k else 0) := by simp [upto, hk]
theorem upto_succ {i : Nat} (hi : i < l.length) : upto l (i + 1) = (upto l i).set i (codeOf l i) := by
  apply List.ext_getElem?
  intro k
  by_cases hk : k < l.length
  · rw [upto_get hk, List.getElem?_set]
    by_cases h : i = k
    · subst h
      rw [if_pos rfl, if_pos (show i < (upto l i).length by rw [upto_len]; exact hi), if_pos (by omega)]
    · rw [if_neg h, upto_get hk]
      congr 1
      exact ite_iff (fun hh => by omega) (fun hh => by omega)
  · rw [List.getElem?_eq_none (by rw [upto_len]; omega), List.getElem?_eq_none (by rw [List.length_set, upto_len]; omega)]
theorem upto_skip {i : Nat} (hi : i < l.length) (h0 : codeOf l i = 0) : upto l (i + 1) = upto l i := by
  apply List.ext_getElem?
  intro k
  by_cases hk : k < l.length
  · rw [upto_get hk, upto_get hk]
    congr 1
    by_cases h : k = i
    · subst h; rw [if_pos (by omega), if_neg (by omega), h0]
    · exact ite_iff (fun hh => by omega) (fun hh => by omega)
  · rw [List.getElem?_eq_none (by rw [upto_len]; omega), List.getElem?_eq_none (by rw [upto_len]; omega)]
theorem upto_end : upto l l.length = codes l := by
  unfold upto codes
  refine List.map_congr_left fun k hk => ?_
  have : k < l.length := by simpa using hk
  rw [if_pos this]
theorem rCodes_t (hl : Iv H a l) (hr : rightB l = true) :
    Wf S 108 [.slice a l.length c] H fun v H' => Kp H.next H H' ∧ v = .slice (some ⟨H.next, 0, none⟩) l.length l.length ∧ Own H' H.next (codes l) := by
  have hlen := right_len hr
  have hall := right_all hr
  refine w108 rfl rfl _ ?_
  have m1 : (l.length : Int) ≤ 9223372036854775807 := by omega
  have m2 : 8 * (l.length : Int) ≤ 281474976710656 := by omega
  simp [s108, kMks, m1, m2]
  refine l108_0 S (fun d e H' => ∃ i : Nat, i ≤ l.length ∧ d = l.length - i ∧ Kp H.next H H' ∧ Own H' H.next (upto l i) ∧ e 0 = .slice a l.length c ∧ e 3 = .slice (some ⟨H.next, 0, none⟩) l.length l.length ∧ e 4 = .int .i64 i) l.length ⟨0, by omega, by omega, Kp.push (Nat.le_refl _), ?_, by simp, by simp, by simp⟩ ?_
  · unfold Own
    rw [get_last]
    simp [ints, zeros, upto, List.map_const']
  rintro d e H' ⟨i, hi, rfl, hk, ho, e0, e3, e4⟩
  by_cases h3 : i < l.length
  · have hl' : Iv H' a l := hl.kp hk
    have hl2 := hl'
    obtain ⟨b, o, cs, rw, rfl, hg, hc⟩ := hl' (by omega)
    obtain ⟨x, hx⟩ : ∃ x, l[i]? = some x := ⟨_, List.getElem?_eq_getElem h3⟩
    have hcx := hc i x hx
    have hax := at0_of hx
    have hxb := hall i
    rw [hax] at hxb
    have hw : IntKind.i64.wrap ((i : Int) + 1) = (i : Int) + 1 := wi (by omega) (by omega)
    by_cases g0 : x = 0
    · subst g0
      simp [s108_0, e0, e3, e4, h3, addOff, hg, hcx, hw]
      refine ⟨l.length - (i + 1), by omega, i + 1, by omega, rfl, hk, ?_, by omega⟩
      rw [upto_skip h3 (by unfold codeOf; rw [hax]; simp)]; exact ho
    · have hnn : 0 < at0 l i := by rw [hax]; omega
      obtain ⟨hd1, hd2⟩ := codeOf_div h3 hnn (by rw [hax]; exact hxb.2)
      rw [hax] at hd1 hd2
      simp [s108_0, e0, e3, e4, h3, addOff, hg, hcx, g0]
      refine ahead_in (i := i) (x := x) (c := c) hl2 hlen hall hx (by simp [e0]) (by simp [e4]) (by simp) (by simp) ?_
      intro e' f0 f3 f4 f5
      have hw2 : IntKind.i64.wrap (11 - x) = ((11 - x).toNat : Int) := by rw [wi (by omega) (by omega)]; omega
      simp [f0, f4, h3, addOff, hg, hcx]
      rw [hw2]
      refine (Size_t H' (11 - x).toNat (by omega)).mono ?_
      rintro v H2 ⟨rfl, rfl⟩
      have hpe : p2 (11 - x).toNat = part x := rfl
      have hp := part_pos x
      have hp0 : ¬ part x = 0 := by omega
      have han := ahead_nonneg l x i
      have hbd := before_bd hall x i l.length
      have hae : ahead l x i = sumTo (before l x i) l.length := rfl
      have htd : (ahead l x i).tdiv (part x) = codeOf l i := by rw [Int.tdiv_eq_ediv_of_nonneg han, hd1]
      have hcn : 0 ≤ codeOf l i ∧ codeOf l i ≤ ahead l x i := by
        rw [hd1]
        exact ⟨Int.ediv_nonneg han (by omega), Int.ediv_le_self _ han⟩
      have hw3 : IntKind.i64.wrap (codeOf l i) = codeOf l i := wi (by omega) (by omega)
      have hlt := lt_cells ho
      have hkst : kSt H2 (.pointer (some ⟨H.next, i, none⟩)) (.int .i64 (codeOf l i)) = some (H2.put H.next (.cells (ints (upto l (i + 1))) 3 true)) := by
        have ho' : H2.get H.next = .cells (ints (upto l i)) 3 true := ho
        rw [upto_succ h3]
        simp [kSt, ho', oneC, ints, upto_len, h3, List.map_set]
      simp [f0, f3, f4, f5, e3, hpe, hp0, htd, hw3, h3, addOff, hkst, hw]
      exact ⟨l.length - (i + 1), by omega, i + 1, by omega, rfl, hk.trans (Kp.put (Nat.le_refl _)), get_put_eq hlt, by omega⟩
  · have h5 : i = l.length := by omega
    subst h5
    simp [s108_0, e0, e3, e4]
    exact ⟨hk, by rw [← upto_end]; exact ho⟩
end
end Go.Proofs.Ytlboioplemlneaa.K
/- Codes of unlike lengths: a law's numbers. -/
set_option maxRecDepth 100000
set_option maxHeartbeats 2000000
set_option linter.unusedVariables false
set_option linter.unusedSimpArgs false
namespace Go.Proofs.Ytlboioplemlneaa.K
open Go Go.Proofs
theorem ints_flat : ∀ l : List Int, l.flatMap (fun x : Int => [Value.int .i64 x]) = ints l
  | [] => rfl
  | x :: l => by
    have := ints_flat l
    simp only [List.flatMap_cons, this, ints, List.map_cons]; rfl
theorem arg_ints {b : Nat} {kv : Value} {blk : Blk} (h : ArgSl [.int .i64] 3 b kv blk) : ∃ a c, ∃ l : List Int, kv = .slice a l.length c ∧ (l.length : Int) ≤ 9223372036854775807 ∧ (∀ x ∈ l, -9223372036854775808 ≤ x ∧ x ≤ 9223372036854775807) ∧ (0 < l.length → a = some ⟨b, 0, none⟩ ∧ blk = .cells (ints l) 3 false) := by
  rcases h with rfl | ⟨m, cs, hm, hs, rfl, rfl⟩
  · exact ⟨none, 0, [], rfl, by simp, by simp, by simp⟩
  · obtain ⟨l, rfl, rfl, hb⟩ := sks_rows (f := fun x : Int => [.int .i64 x]) (good := fun x => -9223372036854775808 ≤ x ∧ x ≤ 9223372036854775807) (by decide) (fun vs h => by
      obtain ⟨_, _, rfl, ⟨k, rfl, hk⟩, rfl⟩ := h
      exact ⟨k, rfl, bounds_i64 hk⟩) m cs hs
    have hf := ints_flat l
    exact ⟨_, _, l, rfl, by unfold maxLen at hm; omega, hb, fun _ => ⟨rfl, by rw [hf]⟩⟩
theorem iv_of {H : Heap} {b : Nat} {a : Option Addr} {blk : Blk} {l : List Int} (h : 0 < l.length → a = some ⟨b, 0, none⟩ ∧ blk = .cells (ints l) 3 false) (hg : H.get b = blk) : Iv H a l := fun hp => by
  obtain ⟨h1, h2⟩ := h hp
  exact ⟨b, 0, ints l, false, h1, hg.trans h2, fun i x hx => by simp [ints, hx]⟩
theorem aw (blk : Blk) : (evFn S 60 37 [] [blk]).map (fun p => (p.1, p.2.get 0)) = some (.bool true, blk) := by kernel_rfl
theorem aw2 (blk b2 : Blk) : (evFn S 60 37 [] [blk, b2]).map (fun p => (p.1, p.2.get 0, p.2.get 1)) = some (.bool true, blk, b2) := by kernel_rfl
theorem aw' (blk : Blk) : Wf S 37 [] [blk] fun v H' => v = .bool true ∧ H'.get 0 = blk := (run_of (aw blk)).mono fun v H' h => by simpa using h
theorem aw2' (blk b2 : Blk) : Wf S 37 [] [blk, b2] fun v H' => v = .bool true ∧ H'.get 0 = blk ∧ H'.get 1 = b2 := (run_of (aw2 blk b2)).mono fun v H' h => by simpa using h
end Go.Proofs.Ytlboioplemlneaa.K
/- Codes of unlike lengths: counts that may be, by the document. -/
set_option maxRecDepth 100000
set_option maxHeartbeats 2000000
set_option linter.unusedVariables false
set_option linter.unusedSimpArgs false
namespace Go.Proofs.Ytlboioplemlneaa.K
open Go Go.Proofs
section
variable {H : Heap} {a : Option Addr} {c : Nat} {l : List Int}
def hasP (l : List Int) (i : Nat) : Bool := (l.take i).any posC
theorem r5Right_t (hl : Iv H a l) (hm : (l.length : Int) ≤ 9223372036854775807) : Wf S 39 [.slice a l.length c] H fun v H' => H' = H ∧ v = .bool (cright l) := by
  refine w39 rfl rfl _ ?_
  simp [s39]
  refine l39_0 S (fun d e H' => ∃ i : Nat, i ≤ l.length ∧ d = l.length - i ∧ H' = H ∧ e 0 = .slice a l.length c ∧ e 3 = .bool (hasP l i) ∧ e 4 = .int .i64 i ∧ AllC (l.take i)) l.length ⟨0, by omega, by omega, rfl, by simp, by simp [hasP], by simp, rfl⟩ ?_
  rintro d e H' ⟨i, hi, rfl, rfl, e0, e3, e4, hok⟩
  by_cases h3 : i < l.length
  · obtain ⟨b, o, cs, rw, rfl, hg, hc⟩ := hl (by omega)
    obtain ⟨x, hx⟩ : ∃ x, l[i]? = some x := ⟨_, List.getElem?_eq_getElem h3⟩
    have hcx := hc i x hx
    have hw : IntKind.i64.wrap ((i : Int) + 1) = (i : Int) + 1 := wi (by omega) (by omega)
    by_cases g1 : x < 0
    · simp [s39_0, e0, e4, h3, addOff, hg, hcx, g1]
      exact cright_no hx (by simp [okC]; omega)
    by_cases g2 : 1048576 < x
    · simp [s39_0, e0, e4, h3, addOff, hg, hcx, g1, g2]
      exact cright_no hx (by simp [okC]; omega)
    · have hok' : AllC (l.take (i + 1)) := by
        unfold AllC at *
        rw [all_succ hx, hok]; simp [okC]; omega
      have han : hasP l (i + 1) = (hasP l i || posC x) := any_succ hx
      by_cases g3 : hasP l i = true
      · rw [g3] at e3 han
        simp [s39_0, e0, e3, e4, h3, addOff, hg, hcx, g1, g2, hw]
        exact ⟨l.length - (i + 1), by omega, i + 1, by omega, rfl, by rw [han]; simp, by omega, hok'⟩
      · have g3' : hasP l i = false := by simpa using g3
        rw [g3'] at e3 han
        simp [s39_0, e0, e3, e4, h3, addOff, hg, hcx, g1, g2, hw]
        exact ⟨l.length - (i + 1), by omega, i + 1, by omega, rfl, by rw [han]; simp [posC], by omega, hok'⟩
  · have h5 : i = l.length := by omega
    subst h5
    have hpl : hasP l l.length = l.any posC := by unfold hasP; rw [List.take_length]
    rw [hpl] at e3
    rw [List.take_length] at hok
    have hall' : l.all okC = true := hok
    simp only [cright, hall', Bool.true_and]
    by_cases g3 : l.any posC = true
    · rw [g3] at e3
      simp [s39_0, e0, e3, e4, g3]
      omega
    · have g3' : l.any posC = false := by simpa using g3
      rw [g3'] at e3
      simp [s39_0, e0, e3, e4, g3']
end
end Go.Proofs.Ytlboioplemlneaa.K
