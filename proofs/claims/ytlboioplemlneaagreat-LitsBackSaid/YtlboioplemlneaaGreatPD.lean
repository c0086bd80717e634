/- Lengths as bytes: what the program and the document write. -/
import Derived.Test.YtlboioplemlneaaGreatPA
set_option maxRecDepth 100000
set_option maxHeartbeats 2000000
set_option linter.unusedVariables false
set_option linter.unusedSimpArgs false
namespace Go.Proofs.YtlboioplemlneaaGreat.K
open Go Go.Proofs
/-- how many there are but for noughts at the end -/
def stp (l : List Int) : Nat → Nat
  | 0 => 0
  | n + 1 => if at0 l n = 0 then stp l n else n + 1
theorem stp_le (l : List Int) : ∀ n, stp l n ≤ n
  | 0 => by simp [stp]
  | n + 1 => by
    have := stp_le l n
    simp only [stp]; split <;> omega
def shortN (l : List Int) : Nat := stp l l.length
def short (l : List Int) : List Int := l.take (shortN l)
theorem short_len (l : List Int) : (short l).length = shortN l := by
  have := stp_le l l.length
  unfold short shortN; rw [List.length_take]; omega
theorem short_at {l : List Int} {i : Nat} (h : i < shortN l) : at0 (short l) i = at0 l i := by
  unfold at0 short
  rw [List.getD_eq_getElem?_getD, List.getD_eq_getElem?_getD, List.getElem?_take, if_pos h]
theorem short_out {l : List Int} {i : Nat} (h : shortN l ≤ i) : at0 (short l) i = 0 := by
  unfold at0
  rw [List.getD_eq_getElem?_getD, List.getElem?_eq_none (by rw [short_len]; exact h)]; rfl
def u8 (x : Int) : UInt8 := UInt8.ofNat x.toNat
/-- a byte of two lengths -/
def pairB (l : List Int) (j : Nat) : UInt8 := u8 (at0 l (2 * j) + 16 * at0 l (2 * j + 1))
def tabs (l : List Int) (k : Nat) : Bytes := (List.range k).map (pairB l)
theorem tabs_succ (l : List Int) (k : Nat) : tabs l (k + 1) = tabs l k ++ [pairB l k] := by simp [tabs, List.range_succ]
def tableOf (l : List Int) : Bytes := u8 ((shortN l : Int) - 1) :: tabs (short l) ((shortN l + 1) / 2)
section
variable {H : Heap}
theorem shortN_le (l : List Int) : shortN l ≤ l.length := stp_le _ _
theorem cut_short {a : Option Addr} {c : Nat} {l : List Int} (h : Is H (.slice a l.length c) l) : ∃ v', Is H v' (short l) ∧ ∀ K : Kv, run S (.slc 3 1 (.c (.slice a l.length c)) none (some (.c (.int .i64 (shortN l))))) [] H K = K v' H := by
  have hle := shortN_le l
  rcases h with ⟨h1, rfl⟩ | ⟨b, o, c', cs, rw, h1, h2, h3, h4⟩
  · simp only [Value.slice.injEq] at h1
    obtain ⟨rfl, _, rfl⟩ := h1
    refine ⟨.slice none 0 0, .inl ⟨rfl, rfl⟩, ?_⟩
    have : shortN [] = 0 := rfl
    intro K; rw [this]; rfl
  · simp only [Value.slice.injEq] at h1
    obtain ⟨rfl, _, rfl⟩ := h1
    refine ⟨_, ?_, fun K => run_slc0 h2 h3 hle⟩
    refine .inr ⟨b, o, if c = capx then capx else c, cs, rw, by rw [short_len], ?_, h3, fun i x hx => ?_⟩
    · rw [short_len]
      rcases h2 with h2 | h2
      · left; rw [if_pos h2]
      · by_cases hc : c = capx
        · left; rw [if_pos hc]
        · right; rw [if_neg hc]; omega
    · unfold short at hx
      rw [List.getElem?_take] at hx
      split at hx
      · exact h4 i x hx
      · cases hx
theorem Short_t {v : Value} {l : List Int} (h : Is H v l) (hm : l.length ≤ 1000000) : Wf S 58 [v] H fun v' H' => H' = H ∧ Is H v' (short l) := by
  refine w58 rfl rfl _ ?_
  obtain ⟨a, c, rfl, hiv⟩ := h.iv
  simp [s58]
  refine l58_0 S (fun d e H' => d ≤ l.length ∧ H' = H ∧ e 0 = .slice a l.length c ∧ e 3 = .int .i64 d ∧ stp l d = shortN l) l.length ⟨by omega, rfl, by simp, by simp, rfl⟩ ?_
  rintro d e H' ⟨hn, rfl, e0, e3, hst⟩
  cases d with
  | zero =>
    have h0 : shortN l = 0 := by rw [← hst]; rfl
    obtain ⟨v', q1, q2⟩ := cut_short h
    rw [h0, show ((0 : Nat) : Int) = 0 from rfl] at q2
    simp [s58_0, e0, e3]
    rw [q2]
    exact ⟨rfl, q1⟩
  | succ n =>
    obtain ⟨b, o, cs, rw, rfl, hg, hc⟩ := hiv (by omega)
    obtain ⟨x, hx⟩ : ∃ x, l[n]? = some x := ⟨_, List.getElem?_eq_getElem (by omega)⟩
    have hcx := hc n x hx
    have hax := at0_of hx
    have hw : IntKind.i64.wrap ((n : Int) + 1 - 1) = n := by rw [wi (by omega) (by omega)]; omega
    have hw2 : IntKind.i64.wrap (n : Int) = n := wi (by omega) (by omega)
    have hp : (0 : Int) < (n : Int) + 1 := by omega
    have hn1 : n < l.length := by omega
    by_cases g : x = 0
    · subst g
      simp [s58_0, e0, e3, hp, hw, hw2, hn1, addOff, hg, hcx]
      refine ⟨n, by omega, by omega, rfl, ?_⟩
      rw [← hst]; simp [stp, hax]
    · have h0 : shortN l = n + 1 := by rw [← hst]; simp [stp, hax, g]
      obtain ⟨v', q1, q2⟩ := cut_short h
      rw [h0, show ((n + 1 : Nat) : Int) = (n : Int) + 1 by omega] at q2
      simp [s58_0, e0, e3, hp, hw, hw2, hn1, addOff, hg, hcx, g]
      rw [q2]
      exact ⟨rfl, q1⟩
end
end Go.Proofs.YtlboioplemlneaaGreat.K
/- Lengths as bytes: the tables. -/
set_option maxRecDepth 100000
set_option maxHeartbeats 2000000
set_option linter.unusedVariables false
set_option linter.unusedSimpArgs false
namespace Go.Proofs.YtlboioplemlneaaGreat.K
open Go Go.Proofs
theorem u8_nat {x : Int} (h0 : 0 ≤ x) (h1 : x < 256) : ((u8 x).toNat : Int) = x := by
  unfold u8
  have : (UInt8.ofNat x.toNat).toNat = x.toNat := by
    rw [UInt8.toNat_ofNat']; omega
  rw [this]; omega
theorem wrap8 {x : Int} (h0 : 0 ≤ x) (h1 : x < 256) : IntKind.u8.wrap x = x := by
  simp [IntKind.wrap, IntKind.signed, IntKind.bits]; omega
theorem bv_u8 {x : Int} (h0 : 0 ≤ x) (h1 : x < 256) : Value.int .u8 x = bv (u8 x) := by
  unfold bv; rw [u8_nat h0 h1]
theorem bvs_snoc (l : Bytes) (b : UInt8) : bvs (l ++ [b]) = bvs l ++ [bv b] := by simp [bvs]
section
variable {H : Heap}
def TI (H0 : Heap) (v' : Value) (s : List Int) (first : UInt8) (d : Nat) (e3 e4 e5 : Value) (H : Heap) : Prop := ∃ j : Nat, j ≤ (s.length + 1) / 2 ∧ d = (s.length + 1) / 2 - j ∧ Kp H0.next H0 H ∧ H0.next ≤ H.next ∧ e3 = v' ∧ Acc 5 1 H0.next H.next H e4 (j + 1) (bvs (first :: tabs s j)) ∧ e5 = .int .i64 ((2 * j : Nat) : Int)
theorem or16 : ∀ x : Fin 16, ∀ y : Fin 16, (BitVec.ofInt 8 (x.val : Int) ||| BitVec.ofInt 8 (16 * (y.val : Int))).toNat = x.val + 16 * y.val := by decide
theorem kb_or8 {x y : Int} (hx0 : 0 ≤ x) (hx1 : x < 16) (hy0 : 0 ≤ y) (hy1 : y < 16) : kBin .or (.int .u8 x) (.int .u8 (16 * y)) = some (.int .u8 (x + 16 * y)) := by
  rw [kb_or]
  have h := or16 ⟨x.toNat, by omega⟩ ⟨y.toNat, by omega⟩
  simp only at h
  have ex : ((x.toNat : Nat) : Int) = x := by omega
  have ey : ((y.toNat : Nat) : Int) = y := by omega
  rw [ex, ey] at h
  have hb : IntKind.u8.bits = 8 := rfl
  rw [hb, h]
  rw [wrap8 (by omega) (by omega)]
  congr 2; omega
theorem Table_t {v : Value} {l : List Int} (h : Is H v l) (hm : (l.length : Int) ≤ 9223372036854775807) (hpos : wholeB l = true → 1 ≤ shortN l) : Wf S 32 [v] H fun r H' => Kp H.next H H' ∧ r = if wholeB l = true then .tuple #[.string (ofL (tableOf l)), .bool true] else .tuple #[.string (ofL []), .bool false] := by
  refine w32 rfl rfl _ ?_
  obtain ⟨a0, c0, rfl, hiv0⟩ := h.iv
  simp [s32]
  refine (Whole_t hiv0 hm).mono ?_
  rintro r H1 ⟨rfl, rfl⟩
  by_cases hwh0 : ¬ wholeB l = true
  · simp [hwh0, tup, bs_ofL]
    exact Kp.refl _ _
  have hwh : wholeB l = true := Decidable.not_not.mp hwh0
  have hr : rightB l = true := by simp only [wholeB, Bool.and_eq_true] at hwh; exact hwh.1
  have hlen := right_len hr
  have hall := right_all hr
  have hpos := hpos hwh
  simp [hwh]
  refine (Short_t h (by omega)).mono ?_
  rintro v' H1 ⟨rfl, his⟩
  have hsl := short_len l
  have hsle := shortN_le l
  obtain ⟨a, c, rfl, hiv⟩ := his.iv
  have hw1 : IntKind.i64.wrap ((short l).length - 1) = ((shortN l : Int) - 1) := by rw [hsl]; exact wi (by omega) (by omega)
  have hw2 : IntKind.u8.wrap ((shortN l : Int) - 1) = (shortN l : Int) - 1 := wrap8 (by omega) (by omega)
  have hsat : ∀ k, 0 ≤ at0 (short l) k ∧ at0 (short l) k ≤ 11 := fun k => by
    rcases Nat.lt_or_ge k (shortN l) with hk | hk
    · rw [short_at hk]; exact hall k
    · rw [short_out hk]; omega
  simp [hw1, hw2, kFill, evPs, isTup, cellsL, wr]
  have hfirst : Value.int .u8 ((shortN l : Int) - 1) = bv (u8 ((shortN l : Int) - 1)) := bv_u8 (by omega) (by omega)
  rw [hfirst]
  have hone : Acc 5 1 H1.next (H1.next + 1) (H1.push (.cells [bv (u8 ((shortN l : Int) - 1))] 5 true)) (.slice (some ⟨H1.next, 0, none⟩) 1 1) 1 [bv (u8 ((shortN l : Int) - 1))] := Acc.one (Nat.le_refl _) rfl
  refine l32_0 S (fun d e H => TI H1 (.slice a (short l).length c) (short l) (u8 ((shortN l : Int) - 1)) d (e 4) (e 5) (e 6) H) ((shortN l + 1) / 2) ⟨0, by omega, by rw [hsl]; omega, Kp.push (Nat.le_refl _), by simp, by simp, ?_, by simp⟩ ?_
  · simpa [tabs, bvs] using hone
  rintro d e H ⟨j, hj, rfl, hk, hn, e4, hA, e6⟩
  rw [hsl] at hj
  by_cases h3 : 2 * j < shortN l
  · obtain ⟨b, o, cs, rw, rfl, hg0, hc⟩ := hiv (by omega)
    have hg := (hk.2 b (lt_cells hg0)).trans hg0
    obtain ⟨x, hx⟩ : ∃ x, (short l)[2 * j]? = some x := ⟨_, List.getElem?_eq_getElem (by omega)⟩
    have hcx := hc _ x hx
    have hax := at0_of hx
    have hxb := hsat (2 * j)
    rw [hax] at hxb
    have h3' : 2 * j < (short l).length := by omega
    have h3'' : (2 : Int) * j < (short l).length := by omega
    have h30 : (0 : Int) ≤ 2 * (j : Int) := by omega
    have htn : ((2 : Int) * (j : Int)).toNat = 2 * j := by omega
    have hwi : IntKind.i64.wrap (2 * (j : Int) + 1) = 2 * (j : Int) + 1 := wi (by omega) (by omega)
    have hwi2 : IntKind.i64.wrap (2 * (j : Int) + 2) = 2 * (j : Int) + 2 := wi (by omega) (by omega)
    -- what is laid at the end
    have hrest : ∀ (y : Int), 0 ≤ y → y ≤ 11 → at0 (short l) (2 * j + 1) = y → ∃ v' H', kApp (H.push (.cells [.int .u8 (IntKind.u8.wrap (x + 16 * y))] 5 true)) 5 1 1 (e 5) 1 [.int .u8 (IntKind.u8.wrap (x + 16 * y))] = some (v', H') ∧ TI H1 (.slice (some ⟨b, o, none⟩) (short l).length c) (short l) (u8 ((shortN l : Int) - 1)) ((shortN l + 1) / 2 - (j + 1)) (.slice (some ⟨b, o, none⟩) (short l).length c) v' (.int .i64 (2 * (j : Int) + 2)) H' := by
      intro y hy0 hy1 hay
      have hpb : pairB (short l) j = u8 (x + 16 * y) := by unfold pairB; rw [hax, hay]
      have hwb : IntKind.u8.wrap (x + 16 * y) = x + 16 * y := wrap8 (by omega) (by omega)
      rw [hwb, bv_u8 (by omega) (by omega)]
      obtain ⟨v2, H2, hap, hA2, hn2, hk2⟩ := hA.app (bytes := 1) (new := [bv (u8 (x + 16 * y))]) hn (Nat.le_refl _) rfl (by unfold roomMax; omega)
      refine ⟨v2, H2, hap, j + 1, by omega, by omega, ⟨by have := hk.1; omega, fun k hk' => (hk2 k (by omega) (.inl hk')).trans (hk.2 k hk')⟩, by omega, rfl, ?_, by congr 1⟩
      have ht : bvs (u8 ((shortN l : Int) - 1) :: tabs (short l) (j + 1)) = bvs (u8 ((shortN l : Int) - 1) :: tabs (short l) j) ++ [bv (u8 (x + 16 * y))] := by
        rw [tabs_succ, hpb]; simp [bvs]
      rw [ht]; exact hA2
    by_cases h4 : 2 * j + 1 < shortN l
    · obtain ⟨y, hy⟩ : ∃ y, (short l)[2 * j + 1]? = some y := ⟨_, List.getElem?_eq_getElem (by omega)⟩
      have hcy := hc _ y hy
      have hay := at0_of hy
      have hyb := hsat (2 * j + 1)
      rw [hay] at hyb
      have h4' : (2 : Int) * j + 1 < (short l).length := by omega
      have h41 : (0 : Int) ≤ 2 * (j : Int) + 1 := by omega
      have htn1 : ((2 : Int) * (j : Int) + 1).toNat = 2 * j + 1 := by omega
      have hwx : IntKind.u8.wrap x = x := wrap8 (by omega) (by omega)
      have hwy : IntKind.u8.wrap y = y := wrap8 (by omega) (by omega)
      have hb4 : min 4 IntKind.u8.bits = 4 := by decide
      have hwm : IntKind.u8.wrap (y * 16) = 16 * y := by rw [wrap8 (by omega) (by omega)]; omega
      have hor := kb_or8 (x := x) (y := y) (by omega) (by omega) (by omega) (by omega)
      have hwz : IntKind.u8.wrap (x + 16 * y) = x + 16 * y := wrap8 (by omega) (by omega)
      obtain ⟨v2, H2, hap, hT⟩ := hrest y hyb.1 hyb.2 hay
      rw [hwz] at hap
      have hcy' : cs[o + (2 * j + 1)]? = some (.int .i64 y) := hcy
      simp [s32_0, e4, e6, h3', h3'', h30, htn, addOff, hg, hcx, hwi, h4', h41, htn1, hcy', hwx, hwy, kb_shl, hb4, hwm, hor, kFill, evPs, isTup, cellsL, wr, kRow, rd, hap, hwi2]
      exact ⟨_, by rw [hsl]; omega, hT⟩
    · have h4' : ¬ (2 : Int) * j + 1 < (short l).length := by omega
      obtain ⟨v2, H2, hap, hT⟩ := hrest 0 (by omega) (by omega) (short_out (by omega))
      simp only [Int.mul_zero, Int.add_zero] at hap
      simp [s32_0, e4, e6, h3', h3'', h30, htn, addOff, hg, hcx, hwi, h4', kFill, evPs, isTup, cellsL, wr, kRow, rd, hap, hwi2]
      exact ⟨_, by rw [hsl]; omega, hT⟩
  · have h5 : j = (shortN l + 1) / 2 := by omega
    have h3' : ¬ (2 : Int) * j < (short l).length := by omega
    have h3'' : ¬ 2 * j < (short l).length := by omega
    obtain ⟨a4, c4, he4, hrow⟩ := hA.row
    simp [s32_0, e4, e6, he4, h3', h3'']
    rw [s_b2s hrow]
    simp [tup]
    refine ⟨hk, ?_⟩
    rw [h5]; rfl
end
end Go.Proofs.YtlboioplemlneaaGreat.K
/- Lengths as bytes: what the document reads. -/
set_option maxRecDepth 100000
set_option maxHeartbeats 2000000
set_option linter.unusedVariables false
set_option linter.unusedSimpArgs false
namespace Go.Proofs.YtlboioplemlneaaGreat.K
open Go Go.Proofs
theorem stp_zero {l : List Int} : ∀ n, stp l n = 0 → ∀ k, k < n → at0 l k = 0
  | 0, _, k, hk => by omega
  | n + 1, h, k, hk => by
    simp only [stp] at h
    split at h
    · by_cases e : k = n
      · subst e; assumption
      · exact stp_zero n h k (by omega)
    · omega
theorem whole_pos {l : List Int} (h : wholeB l = true) : 1 ≤ shortN l := by
  rcases Nat.eq_zero_or_pos (shortN l) with h0 | h0
  · exfalso
    have hz := stp_zero l.length h0
    have ht : total l = 0 := by
      unfold total
      have : sumTo (taken l) l.length = sumTo (fun _ => 0) l.length := sumTo_congr _ fun k hk => by
        unfold taken; rw [hz k hk]; simp
      rw [this]
      have hzz : ∀ n, sumTo (fun _ => 0) n = 0 := by
        intro n
        induction n with
        | zero => rfl
        | succ n ih => simp [sumTo, ih]
      exact hzz _
    simp only [wholeB, Bool.and_eq_true, Bool.or_eq_true, decide_eq_true_eq] at h
    omega
  · exact h0
def byteAt (s : Bytes) (i : Nat) : Int := ((s.getD i 0).toNat : Int)
theorem byteAt_bd (s : Bytes) (i : Nat) : 0 ≤ byteAt s i ∧ byteAt s i < 256 := by
  have := (s.getD i 0).toNat_lt
  unfold byteAt; omega
/-- half a byte -/
def nib (s : Bytes) (i : Nat) : Int := if i % 2 = 1 then byteAt s (1 + i / 2) / 16 else byteAt s (1 + i / 2) % 16
theorem nib_bd (s : Bytes) (i : Nat) : 0 ≤ nib s i ∧ nib s i < 16 := by
  have := byteAt_bd s (1 + i / 2)
  unfold nib; split <;> omega
def nibs (s : Bytes) (n : Nat) : List Int := (List.range n).map (nib s)
theorem nibs_len (s : Bytes) (n : Nat) : (nibs s n).length = n := by simp [nibs]
theorem nibs_succ (s : Bytes) (n : Nat) : nibs s (n + 1) = nibs s n ++ [nib s n] := by simp [nibs, List.range_succ]
theorem nibs_get {s : Bytes} {n i : Nat} (h : i < n) : (nibs s n)[i]? = some (nib s i) := by simp [nibs, h]
def hdN (s : Bytes) : Nat := (s.headD 0).toNat + 1
theorem hdN_bd (s : Bytes) : 1 ≤ hdN s ∧ hdN s ≤ 256 := by
  have := (s.headD 0).toNat_lt
  unfold hdN; omega
def atN (s : Bytes) : Nat := 1 + (hdN s + 1) / 2
/-- may the document read it? -/
def rok (s : Bytes) : Prop := s ≠ [] ∧ atN s ≤ s.length ∧ wholeB (nibs s (hdN s)) = true ∧ tableOf (nibs s (hdN s)) = s.take (atN s)
instance (s : Bytes) : Decidable (rok s) := by unfold rok; infer_instance
theorem acc_is {N M n : Nat} {H : Heap} {v : Value} {l : List Int} (h : Acc 3 1 N M H v n (ints l)) (hn : l.length = n) : Is H v l := by
  rcases h with ⟨h1, h2, rfl⟩ | ⟨b, c, h1, h2, rfl, hc, h4, h5⟩
  · exact .inl ⟨rfl, by cases l with | nil => rfl | cons x l => simp [ints] at h2⟩
  · subst hn
    exact .inr ⟨b, 0, c, ints l, true, rfl, by omega, h4, fun i x hx => by simp [ints, hx]⟩
section
variable {H : Heap}
theorem byteAt_get {s : Bytes} {i : Nat} {b : UInt8} (h : s[i]? = some b) : byteAt s i = b.toNat := by
  unfold byteAt; rw [List.getD_eq_getElem?_getD, h]; rfl
theorem bv_int (b : UInt8) : bv b = .int .u8 b.toNat := rfl
def RR (s : Bytes) (v : Value) (H' : Heap) : Prop := if rok s then ∃ v', v = .tuple #[v', .int .i64 (atN s)] ∧ Is H' v' (nibs s (hdN s)) else v = .tuple #[.slice none 0 0, .int .i64 0]
theorem RR.no {s : Bytes} {H' : Heap} (h : ¬ rok s) : RR s (.tuple #[.slice none 0 0, .int .i64 0]) H' := by unfold RR; rw [if_neg h]
theorem RR.yes {s : Bytes} {H' : Heap} {v' : Value} (h : rok s) (hi : Is H' v' (nibs s (hdN s))) : RR s (.tuple #[v', .int .i64 (atN s)]) H' := by unfold RR; rw [if_pos h]; exact ⟨v', rfl, hi⟩
def RI (H0 : Heap) (s : Bytes) (d : Nat) (e0 e4 e5 e6 e7 : Value) (H : Heap) : Prop := ∃ i : Nat, i ≤ hdN s ∧ d = hdN s - i ∧ Kp H0.next H0 H ∧ H0.next ≤ H.next ∧ e0 = .string (ofL s) ∧ e4 = .int .i64 (hdN s) ∧ e5 = .int .i64 (atN s) ∧ Acc 3 1 H0.next H.next H e6 i (ints (nibs s i)) ∧ e7 = .int .i64 i
end
end Go.Proofs.YtlboioplemlneaaGreat.K
/- Lengths as bytes: what the program reads is what the document reads. -/
set_option maxRecDepth 100000
set_option maxHeartbeats 2000000
set_option linter.unusedVariables false
set_option linter.unusedSimpArgs false
namespace Go.Proofs.YtlboioplemlneaaGreat.K
open Go Go.Proofs
def kN (s : Bytes) : Nat := (hdN s + 1) / 2
def pok (s : Bytes) : Prop := s ≠ [] ∧ atN s ≤ s.length ∧ (hdN s < 2 * kN s → nib s (hdN s) = 0) ∧ nib s (hdN s - 1) ≠ 0 ∧ wholeB (nibs s (hdN s)) = true
theorem stp_full {l : List Int} {n : Nat} (hn : 1 ≤ n) (h : stp l n = n) : at0 l (n - 1) ≠ 0 := by
  cases n with
  | zero => omega
  | succ n =>
    simp only [stp] at h
    split at h
    · have := stp_le l n; omega
    · assumption
theorem stp_top {l : List Int} {n : Nat} (hn : 1 ≤ n) (h : at0 l (n - 1) ≠ 0) : stp l n = n := by
  cases n with
  | zero => omega
  | succ n =>
    simp only [stp]
    rw [if_neg (by simpa using h)]
theorem at0_nibs {s : Bytes} {n i : Nat} (h : i < n) : at0 (nibs s n) i = nib s i := at0_of (nibs_get h)
theorem at0_nibs_out {s : Bytes} {n i : Nat} (h : n ≤ i) : at0 (nibs s n) i = 0 := by
  unfold at0; rw [List.getD_eq_getElem?_getD, List.getElem?_eq_none (by rw [nibs_len]; exact h)]; rfl
theorem byte_nibs (s : Bytes) (j : Nat) : nib s (2 * j) + 16 * nib s (2 * j + 1) = byteAt s (1 + j) := by
  have h1 : nib s (2 * j) = byteAt s (1 + j) % 16 := by unfold nib; rw [if_neg (by omega)]; congr 2; omega
  have h2 : nib s (2 * j + 1) = byteAt s (1 + j) / 16 := by unfold nib; rw [if_pos (by omega)]; congr 2; omega
  rw [h1, h2]; omega
theorem u8_byte {s : Bytes} {i : Nat} {b : UInt8} (h : s[i]? = some b) : u8 (byteAt s i) = b := by
  rw [byteAt_get h]; unfold u8; simp
theorem short_full {l : List Int} (h : shortN l = l.length) : short l = l := by unfold short; rw [h, List.take_length]
theorem tabs_get {l : List Int} {k j : Nat} (h : j < k) : (tabs l k)[j]? = some (pairB l j) := by simp [tabs, h]
theorem tabs_len (l : List Int) (k : Nat) : (tabs l k).length = k := by simp [tabs]
theorem pok_iff (s : Bytes) : pok s ↔ rok s := by
  by_cases hs : s = []
  · exact ⟨fun h => absurd hs h.1, fun h => absurd hs h.1⟩
  by_cases hat0 : ¬ atN s ≤ s.length
  · exact ⟨fun h => absurd h.2.1 hat0, fun h => absurd h.2.1 hat0⟩
  have hat : atN s ≤ s.length := Decidable.not_not.mp hat0
  by_cases hw0 : ¬ wholeB (nibs s (hdN s)) = true
  · exact ⟨fun h => absurd h.2.2.2.2 hw0, fun h => absurd h.2.2.1 hw0⟩
  have hw : wholeB (nibs s (hdN s)) = true := Decidable.not_not.mp hw0
  have hbd := hdN_bd s
  have hln := nibs_len s (hdN s)
  have hatN : atN s = 1 + kN s := rfl
  have hkN : kN s = (hdN s + 1) / 2 := rfl
  obtain ⟨c0, hc0⟩ : ∃ c0, s[0]? = some c0 := by
    cases s with
    | nil => exact absurd rfl hs
    | cons c s => exact ⟨c, rfl⟩
  have hc0n : c0.toNat + 1 = hdN s := by
    cases s with
    | nil => simp at hc0
    | cons c s => simp at hc0; subst hc0; rfl
  have hpos := whole_pos hw
  have hsle := shortN_le (nibs s (hdN s))
  rw [hln] at hsle
  -- one place of the table, where nothing is cut
  have key : shortN (nibs s (hdN s)) = hdN s → ∀ j, j < kN s → ∀ b, s[1 + j]? = some b → (pairB (nibs s (hdN s)) j = b ↔ (2 * j + 1 = hdN s → nib s (hdN s) = 0)) := by
    intro hsh j hj b hb
    have hbb := byte_nibs s j
    have h0 := nib_bd s (2 * j)
    have h1 := nib_bd s (2 * j + 1)
    have ha : at0 (nibs s (hdN s)) (2 * j) = nib s (2 * j) := at0_nibs (by omega)
    have hu := u8_byte hb
    by_cases he : 2 * j + 1 = hdN s
    · have ha2 : at0 (nibs s (hdN s)) (2 * j + 1) = 0 := at0_nibs_out (by omega)
      unfold pairB
      rw [ha, ha2]
      constructor
      · intro h _
        rw [← he]
        have e1 : ((u8 (nib s (2 * j) + 16 * 0)).toNat : Int) = nib s (2 * j) + 16 * 0 := u8_nat (by omega) (by omega)
        rw [h, ← byteAt_get hb] at e1
        omega
      · intro h
        have h2 := h he
        rw [← he] at h2
        rw [← hu, ← hbb, h2]
    · have ha2 : at0 (nibs s (hdN s)) (2 * j + 1) = nib s (2 * j + 1) := at0_nibs (by omega)
      unfold pairB
      rw [ha, ha2, hbb, hu]
      exact ⟨fun _ h => absurd h he, fun _ => rfl⟩
  constructor
  · rintro ⟨_, _, h1, h2, _⟩
    refine ⟨hs, hat, hw, ?_⟩
    have hsh : shortN (nibs s (hdN s)) = hdN s := by
      unfold shortN; rw [hln]
      exact stp_top hbd.1 (by rw [at0_nibs (by omega)]; exact h2)
    have hsf : short (nibs s (hdN s)) = nibs s (hdN s) := short_full (by rw [hsh, hln])
    unfold tableOf
    rw [hsh, hsf, ← hkN]
    apply List.ext_getElem?
    intro i
    cases i with
    | zero =>
      rw [List.getElem?_take, if_pos (by omega), hc0]
      have : (hdN s : Int) - 1 = byteAt s 0 := by rw [byteAt_get hc0]; omega
      simp only [List.getElem?_cons_zero]
      rw [this, u8_byte hc0]
    | succ j =>
      rw [List.getElem?_take]
      simp only [List.getElem?_cons_succ]
      by_cases hj : j < kN s
      · rw [if_pos (by omega), tabs_get hj]
        obtain ⟨b, hb⟩ : ∃ b, s[1 + j]? = some b := ⟨_, List.getElem?_eq_getElem (by omega)⟩
        rw [Nat.add_comm j 1, hb]
        congr 1
        exact (key hsh j hj b hb).mpr fun he => h1 (by omega)
      · rw [if_neg (by omega), List.getElem?_eq_none (by rw [tabs_len]; omega)]
  · rintro ⟨_, _, _, ht⟩
    -- the head tells how many there are
    have hh := congrArg (fun l : Bytes => l[0]?) ht
    simp only [tableOf, List.getElem?_cons_zero] at hh
    rw [List.getElem?_take, if_pos (by omega), hc0] at hh
    have hh' := Option.some.inj hh
    have e1 : ((u8 ((shortN (nibs s (hdN s)) : Int) - 1)).toNat : Int) = (shortN (nibs s (hdN s)) : Int) - 1 := u8_nat (by omega) (by omega)
    rw [hh'] at e1
    have hsh : shortN (nibs s (hdN s)) = hdN s := by omega
    have hsf : short (nibs s (hdN s)) = nibs s (hdN s) := short_full (by rw [hsh, hln])
    have h2 : nib s (hdN s - 1) ≠ 0 := by
      have := stp_full (l := nibs s (hdN s)) hbd.1 (by have := hsh; unfold shortN at this; rw [hln] at this; exact this)
      rwa [at0_nibs (by omega)] at this
    refine ⟨hs, hat, fun hlt => ?_, h2, hw⟩
    have hj : kN s - 1 < kN s := by omega
    obtain ⟨b, hb⟩ : ∃ b, s[1 + (kN s - 1)]? = some b := ⟨_, List.getElem?_eq_getElem (by omega)⟩
    have hj2 := congrArg (fun l : Bytes => l[1 + (kN s - 1)]?) ht
    simp only [tableOf] at hj2
    rw [hsh, hsf, Nat.add_comm 1 (kN s - 1), List.getElem?_cons_succ, List.getElem?_take, if_pos (by omega)] at hj2
    have : (tabs (nibs s (hdN s)) ((hdN s + 1) / 2))[kN s - 1]? = some (pairB (nibs s (hdN s)) (kN s - 1)) := tabs_get hj
    rw [this, Nat.add_comm (kN s - 1) 1, hb] at hj2
    exact (key hsh (kN s - 1) hj b hb).mp (Option.some.inj hj2) (by omega)
theorem and15 : ∀ b : Fin 256, (BitVec.ofInt 8 (b.val : Int) &&& BitVec.ofInt 8 15).toNat = b.val % 16 := by decide
theorem kb_and15 (b : UInt8) : kBin .and (.int .u8 b.toNat) (.int .u8 15) = some (.int .u8 ((b.toNat : Int) % 16)) := by
  have hb := b.toNat_lt
  rw [kb_and]
  have h := and15 ⟨b.toNat, by omega⟩
  simp only at h
  have hbits : IntKind.u8.bits = 8 := rfl
  rw [hbits, h, wrap8 (by omega) (by omega)]
  congr 2
theorem kb_shr4 (b : UInt8) : kBin .shr (.int .u8 b.toNat) (.int .u64 4) = some (.int .u8 ((b.toNat : Int) / 16)) := by
  rw [kb_shr, if_neg (by omega)]
  have hm : min (4 : Int).toNat IntKind.u8.bits = 4 := by decide
  rw [hm]
  congr 2
  rw [Int.fdiv_eq_ediv_of_nonneg _ (by omega)]; rfl
/-- what is laid behind j bytes -/
def lay (s : Bytes) (j : Nat) : List Int := nibs s (2 * j) ++ List.replicate (hdN s + 1 - 2 * j) 0
theorem lay_len {s : Bytes} {j : Nat} (h : 2 * j ≤ hdN s + 1) : (lay s j).length = hdN s + 1 := by simp [lay, nibs_len]; omega
theorem lay_succ {s : Bytes} {j : Nat} (h : 2 * (j + 1) ≤ hdN s + 1) : wr (ints (lay s j)) (2 * j) [.int .i64 (nib s (2 * j)), .int .i64 (nib s (2 * j + 1))] = ints (lay s (j + 1)) := by
  have e1 : ints (lay s j) = ints (nibs s (2 * j)) ++ List.replicate (hdN s + 1 - 2 * j) (.int .i64 0) := by simp [lay, ints]
  have e2 : ints (lay s (j + 1)) = ints (nibs s (2 * j)) ++ [.int .i64 (nib s (2 * j)), .int .i64 (nib s (2 * j + 1))] ++ List.replicate (hdN s + 1 - 2 * (j + 1)) (.int .i64 0) := by
    have : nibs s (2 * (j + 1)) = nibs s (2 * j) ++ [nib s (2 * j), nib s (2 * j + 1)] := by
      rw [show 2 * (j + 1) = 2 * j + 1 + 1 by omega, nibs_succ, nibs_succ]; simp
    simp [lay, ints, this]
  have hl : (ints (nibs s (2 * j))).length = 2 * j := by simp [ints, nibs_len]
  rw [e1, e2]
  unfold wr
  rw [List.take_append_of_le_length (by omega), List.take_of_length_le (by omega)]
  congr 1
  rw [List.drop_append, List.drop_of_length_le (by rw [hl]; simp), List.nil_append, List.drop_replicate]
  congr 1
  simp [hl]; omega
theorem lay_get {s : Bytes} {j i : Nat} (h : i < 2 * j) : (lay s j)[i]? = some (nib s i) := by
  unfold lay
  rw [List.getElem?_append_left (by rw [nibs_len]; exact h), nibs_get h]
end Go.Proofs.YtlboioplemlneaaGreat.K
/- Lengths as bytes: what the program reads. -/
set_option maxRecDepth 100000
set_option maxHeartbeats 2000000
set_option linter.unusedVariables false
set_option linter.unusedSimpArgs false
namespace Go.Proofs.YtlboioplemlneaaGreat.K
open Go Go.Proofs
def body (s : Bytes) : Bytes := (s.drop 1).take (kN s)
def first (s : Bytes) : UInt8 := s.headD 0
section
variable {H : Heap}
/-- what Read comes to: the reader stands at b -/
def PR (s : Bytes) (b : Nat) (H0 : Heap) (v : Value) (H' : Heap) : Prop :=
  H0.next ≤ H'.next ∧ (∀ k, k < H0.next → k ≠ b → H'.get k = H0.get k) ∧ if rok s then ∃ v', v = .tuple #[v', .bool true] ∧ Is H' v' (nibs s (hdN s)) ∧ Rd H' b (s.drop (atN s)) false else v = .tuple #[.slice none 0 0, .bool false]
theorem PR.no {s : Bytes} {b : Nat} {H0 H' : Heap} (h : ¬ rok s) (h1 : H0.next ≤ H'.next) (h2 : ∀ k, k < H0.next → k ≠ b → H'.get k = H0.get k) : PR s b H0 (.tuple #[.slice none 0 0, .bool false]) H' := by
  unfold PR; rw [if_neg h]; exact ⟨h1, h2, rfl⟩
theorem PR.yes {s : Bytes} {b : Nat} {H0 H' : Heap} {v' : Value} (h : rok s) (h1 : H0.next ≤ H'.next) (h2 : ∀ k, k < H0.next → k ≠ b → H'.get k = H0.get k) (hi : Is H' v' (nibs s (hdN s))) (hr : Rd H' b (s.drop (atN s)) false) : PR s b H0 (.tuple #[v', .bool true]) H' := by
  unfold PR; rw [if_pos h]; exact ⟨h1, h2, v', rfl, hi, hr⟩
/-- the loop's state: numbers at N, bytes at N + 1 -/
def LI (H0 : Heap) (s : Bytes) (N : Nat) (d : Nat) (e4 e6 e24 e25 e26 : Value) (H : Heap) : Prop := ∃ j : Nat, j ≤ kN s ∧ d = kN s - j ∧ N + 2 ≤ H.next ∧ (∀ k, k < N → H.get k = H0.get k) ∧ H.get N = .cells (ints (lay s j)) 3 true ∧ H.get (N + 1) = .cells (bvs (body s)) 5 true ∧
  e4 = .int .i64 (hdN s) ∧ e6 = .slice (some ⟨N, 0, none⟩) (2 * j) (hdN s + 1) ∧ e24 = .slice (some ⟨N + 1, 0, none⟩) (kN s) capx ∧ e25 = .int .i64 (kN s) ∧ e26 = .int .i64 j
theorem Read_t {b : Nat} {s : Bytes} (h : Rd H b s false) (hs : s.length ≤ 100000) : Wf S 49 [.pointer (some ⟨b, 0, none⟩)] H fun v H' => PR s b H v H' := by
  refine w49 rfl rfl _ ?_
  have hlt := h.lt
  simp [s49]
  refine (Fixed1_t h).mono ?_
  rintro v H1 ⟨rfl, hr1, hn1, hold1⟩
  have hbd := hdN_bd s
  have hkN : kN s = (hdN s + 1) / 2 := rfl
  have hatN : atN s = 1 + kN s := rfl
  have hhead : (rawOut s false 1).headD 0 = first s := by
    unfold rawOut first
    cases s with
    | nil => simp
    | cons c s => simp
  have hc0 := (first s).toNat_lt
  have hhd : ((first s).toNat : Int) + 1 = hdN s := by unfold hdN first; omega
  have hwc : IntKind.i64.wrap ((first s).toNat : Int) = (first s).toNat := wi (by omega) (by omega)
  have hw1 : IntKind.i64.wrap (((first s).toNat : Int) + 1) = hdN s := by rw [wi (by omega) (by omega)]; exact hhd
  have hw2 : IntKind.i64.wrap ((hdN s : Int) + 1) = (hdN s : Int) + 1 := wi (by omega) (by omega)
  have hq : ((hdN s : Int) + 1).tdiv 2 = (kN s : Int) := by rw [Int.tdiv_eq_ediv_of_nonneg (by omega)]; omega
  have hw3 : IntKind.i64.wrap (kN s : Int) = (kN s : Int) := wi (by omega) (by omega)
  rw [hhead]
  simp only [run_cvt, hwc, run_bin, kb_add, oV_some, hw1, hw2, kb_quo, hq, hw3]
  try simp [hw3]
  refine (Raw_t hr1 _).mono ?_
  rintro v H2 ⟨rfl, rfl⟩
  have hlt1 : b < H1.next := by omega
  have hr2 := rd_put (H := H1) (l := rawL (rawL s false 1) (rawB s false 1) (kN s)) (bad := rawB (rawL s false 1) (rawB s false 1) (kN s)) hlt1
  have hn2 : (H1.put b (RdB (rawL (rawL s false 1) (rawB s false 1) (kN s)) (rawB (rawL s false 1) (rawB s false 1) (kN s)))).next = H1.next := next_put
  have hold2 : ∀ k, k < H.next → k ≠ b → (H1.put b (RdB (rawL (rawL s false 1) (rawB s false 1) (kN s)) (rawB (rawL s false 1) (rawB s false 1) (kN s)))).get k = H.get k := fun k h1 h2 => (get_put_ne h2).trans (hold1 k h1 h2)
  try simp only [Int.toNat_natCast]
  generalize H1.put b (RdB (rawL (rawL s false 1) (rawB s false 1) (kN s)) (rawB (rawL s false 1) (rawB s false 1) (kN s))) = H2 at *
  try simp
  refine (Bad_t hr2).mono ?_
  rintro v H3 ⟨rfl, rfl⟩
  by_cases hbad : rawB (rawL s false 1) (rawB s false 1) (kN s) = true
  · have hno : ¬ rok s := by
      rintro ⟨h0, hat, _⟩
      have h1 : ¬ s.length < 1 := by omega
      simp [rawB, rawL, h1] at hbad
      omega
    simp [hbad, tup]
    exact PR.no hno (by omega) hold2
  have hbad' : rawB (rawL s false 1) (rawB s false 1) (kN s) = false := by simpa using hbad
  have hfit : s ≠ [] ∧ atN s ≤ s.length := by
    have h1 : ¬ s.length < 1 := by
      intro h1
      simp [rawB, h1] at hbad'
    simp [rawB, rawL, h1] at hbad'
    refine ⟨fun e => by rw [e] at h1; simp at h1, by omega⟩
  have hrout : rawOut (rawL s false 1) (rawB s false 1) (kN s) = body s := by
    unfold body
    have h1 : ¬ s.length < 1 := by omega
    have h2 : ¬ s.length - 1 < kN s := by omega
    simp [rawOut, rawL, rawB, h1, h2]
    try omega
  have hrl : rawL (rawL s false 1) (rawB s false 1) (kN s) = s.drop (atN s) := by
    have h1 : ¬ s.length < 1 := by omega
    have h2 : ¬ s.length - 1 < kN s := by omega
    simp [rawL, rawB, h1, h2, List.drop_drop, hatN]
    try omega
  rw [hbad', hrl] at hr2
  rw [hrout]
  have hlen : (body s).length = kN s := by unfold body; simp; omega
  have hmks : kMks H3 3 [.int .i64 0] 8 (.int .i64 0) (.int .i64 ((hdN s : Int) + 1)) = some (.slice (some ⟨H3.next, 0, none⟩) 0 (hdN s + 1), H3.push (.cells (zeros [.int .i64 0] (hdN s + 1)) 3 true)) := by
    have m4 : ((hdN s : Int) + 1).toNat = hdN s + 1 := by omega
    simp only [kMks]
    rw [if_pos (by omega), m4]; rfl
  simp [hbad', hw2, hmks]
  rw [s_s2b (by unfold roomMax; omega), hlen]
  try simp
  refine l49_0 S (fun d e H' => LI H3 s H3.next d (e 4) (e 6) (e 24) (e 25) (e 26) H') (kN s) ⟨0, by omega, by omega, by simp, fun k hk => by simp [hk, show k < H3.next + 1 by omega], ?_, ?_, by simp, by simp, by simp, by simp, by simp⟩ ?_
  · simp [lay, nibs, ints, zeros]
  · simp
  rintro d e H4 ⟨j, hj, rfl, hn4, hold4, hN, hB, e4, e6, e24, e25, e26⟩
  by_cases h3 : j < kN s
  · have hjs : 1 + j < s.length := by omega
    obtain ⟨c, hc⟩ : ∃ c, s[1 + j]? = some c := ⟨_, List.getElem?_eq_getElem hjs⟩
    have hcb := c.toNat_lt
    have hcg : (bvs (body s))[j]? = some (bv c) := by
      simp only [bvs, body, List.getElem?_map]
      rw [List.getElem?_take, if_pos h3, List.getElem?_drop, hc]; rfl
    have hbyte := byteAt_get hc
    have hx : nib s (2 * j) = (c.toNat : Int) % 16 := by unfold nib; rw [if_neg (by omega), show 1 + 2 * j / 2 = 1 + j by omega, hbyte]
    have hy : nib s (2 * j + 1) = (c.toNat : Int) / 16 := by unfold nib; rw [if_pos (by omega), show 1 + (2 * j + 1) / 2 = 1 + j by omega, hbyte]
    have hwx : IntKind.i64.wrap ((c.toNat : Int) % 16) = (c.toNat : Int) % 16 := wi (by omega) (by omega)
    have hwy : IntKind.i64.wrap ((c.toNat : Int) / 16) = (c.toNat : Int) / 16 := wi (by omega) (by omega)
    have hwj : IntKind.i64.wrap ((j : Int) + 1) = (j : Int) + 1 := wi (by omega) (by omega)
    have hfits : 2 * (j + 1) ≤ hdN s + 1 := by omega
    have hll := lay_len (s := s) (j := j) (by omega)
    have hls := lay_succ (s := s) (j := j) hfits
    rw [hx, hy] at hls
    have hap : kApp (H4.push (.cells [.int .i64 ((c.toNat : Int) % 16), .int .i64 ((c.toNat : Int) / 16)] 3 true)) 3 1 8 (.slice (some ⟨H3.next, 0, none⟩) (2 * j) (hdN s + 1)) 2 [.int .i64 ((c.toNat : Int) % 16), .int .i64 ((c.toNat : Int) / 16)] =
        some (.slice (some ⟨H3.next, 0, none⟩) (2 * j + 2) (hdN s + 1), (H4.push (.cells [.int .i64 ((c.toNat : Int) % 16), .int .i64 ((c.toNat : Int) / 16)] 3 true)).put H3.next (.cells (ints (lay s (j + 1))) 3 true)) := by
      have hg : (H4.push (.cells [.int .i64 ((c.toNat : Int) % 16), .int .i64 ((c.toNat : Int) / 16)] 3 true)).get H3.next = .cells (ints (lay s j)) 3 true := by rw [get_old (by omega)]; exact hN
      have hcx : ¬ hdN s + 1 = capx := by
        have : 1000 < capx := by decide
        omega
      have hro : (2 * j + 2) * 8 ≤ roomMax ∧ 2 * j + 2 ≤ roomMax := by unfold roomMax; omega
      have hle : 2 * j + 2 ≤ hdN s + 1 := by omega
      have hil : (ints (lay s j)).length = hdN s + 1 := by simp [ints, hll]
      have hdl : decide (2 * j + 2 ≤ (ints (lay s j)).length) = true := by rw [hil]; simp; omega
      simp only [kApp, hg, hro, and_self, if_true, hcx, if_false, hle, Bool.true_and, hdl, Nat.mul_one, Nat.zero_add]
      rw [hls]; simp
    simp [s49_0, e4, e6, e24, e25, e26, h3, addOff, hB, hcg, bv_int, kb_and15, kb_shr4, hwx, hwy, kFill, evPs, isTup, cellsL, wr, kRow, rd, hap, hwj]
    refine ⟨kN s - (j + 1), by omega, j + 1, by omega, rfl, by simp [next_put]; omega, fun k hk => ?_, get_put_eq (by simp; omega), ?_, rfl, by congr 1, rfl, rfl, by congr 1⟩
    · rw [get_put_ne (by omega), get_old (by omega)]; exact hold4 k hk
    · rw [get_put_ne (by omega), get_old (by omega)]; exact hB
  · have h5 : j = kN s := by omega
    subst h5
    have hll := lay_len (s := s) (j := kN s) (by omega)
    have hpr : PR s b H = PR s b H := rfl
    have hiff := pok_iff s
    have hold : ∀ k, k < H.next → k ≠ b → H4.get k = H.get k := fun k hk hkb => (hold4 k (by omega)).trans (hold2 k hk hkb)
    have hrd : Rd H4 b (s.drop (atN s)) false := (hold4 b (by omega)).trans hr2
    have hgn : (ints (lay s (kN s)))[hdN s - 1]? = some (.int .i64 (nib s (hdN s - 1))) := by
      simp only [ints, List.getElem?_map]; rw [lay_get (by omega)]; rfl
    have hwm : IntKind.i64.wrap ((hdN s : Int) - 1) = (hdN s : Int) - 1 := wi (by omega) (by omega)
    have htm : ((hdN s : Int) - 1).toNat = hdN s - 1 := by omega
    have q1 : (0 : Int) ≤ (hdN s : Int) - 1 := by omega
    have q2 : (hdN s : Int) - 1 < ((2 * kN s : Nat) : Int) := by omega
    have q2' : (hdN s : Int) - 1 < 2 * (kN s : Int) := by omega
    have q3 : (1 : Int) ≤ (hdN s : Int) := by omega
    have e6' : e 6 = .slice (some ⟨H3.next, 0, none⟩) (2 * kN s) (hdN s + 1) := e6
    have hsl : ∀ {K : Kv}, run S (.slc 3 1 (.c (.slice (some ⟨H3.next, 0, none⟩) (2 * kN s) (hdN s + 1))) none (some (.c (.int .i64 (hdN s))))) [] H4 K = K (.slice (some ⟨H3.next, 0, none⟩) (hdN s) (if hdN s + 1 = capx then capx else hdN s + 1)) H4 := fun {K} => run_slc0 (.inr (by omega)) hN (by omega)
    have his : Is H4 (.slice (some ⟨H3.next, 0, none⟩) (hdN s) (if hdN s + 1 = capx then capx else hdN s + 1)) (nibs s (hdN s)) := by
      refine .inr ⟨H3.next, 0, _, _, _, by rw [nibs_len], ?_, hN, fun i x hx => ?_⟩
      · rw [nibs_len]
        by_cases hc : hdN s + 1 = capx
        · left; rw [if_pos hc]
        · right; rw [if_neg hc]; omega
      · have hi := (List.getElem?_eq_some_iff.1 hx).1
        rw [nibs_len] at hi
        rw [nibs_get hi] at hx
        simp only [Nat.zero_add, ints, List.getElem?_map]
        rw [lay_get (by omega)]
        simpa using hx
    obtain ⟨a6, c6, he6, hiv⟩ := his.iv
    have hlast : ∀ (Q : Value → Heap → Prop), (∀ v', Q v' H4 → True) → True := fun _ _ => trivial
    have hww := Whole_t (c := c6) hiv (by rw [nibs_len]; omega)
    rw [← he6] at hww
    have t1 : (hdN s : Int) < 2 * (kN s : Int) ↔ hdN s < 2 * kN s := by omega
    by_cases hodd : hdN s < 2 * kN s
    · have hodd' : (hdN s : Int) < 2 * (kN s : Int) := by omega
      have hgm : (ints (lay s (kN s)))[hdN s]? = some (.int .i64 (nib s (hdN s))) := by
        simp only [ints, List.getElem?_map]; rw [lay_get hodd]; rfl
      by_cases hz : nib s (hdN s) = 0
      · by_cases hy : nib s (hdN s - 1) = 0
        · have hno : ¬ rok s := fun h => ((pok_iff s).mpr h).2.2.2.1 hy
          simp [s49_0, e4, e6', e25, e26, hodd', hodd, addOff, hN, hgm, hz, hwm, q1, q2', q3, htm, hgn, hy, tup]
          exact PR.no hno (by omega) hold
        · simp [s49_0, e4, e6', e25, e26, hodd', hodd, addOff, hN, hgm, hz, hwm, q1, q2', q3, htm, hgn, hy, hsl]
          refine hww.mono ?_
          rintro r H5 ⟨rfl, rfl⟩
          by_cases hwh : wholeB (nibs s (hdN s)) = true
          · have hyes := PR.yes (b := b) (H0 := H) ((pok_iff s).mp ⟨hfit.1, hfit.2, fun _ => hz, hy, hwh⟩) (by omega) hold his hrd
            simp [hwh, e4, e6', hsl, tup]
            exact hyes
          · have hno : ¬ rok s := fun h => hwh h.2.2.1
            simp [hwh, tup]
            exact PR.no hno (by omega) hold
      · have hno : ¬ rok s := fun h => hz (((pok_iff s).mpr h).2.2.1 hodd)
        simp [s49_0, e4, e6', e25, e26, hodd', hodd, addOff, hN, hgm, hz, tup]
        exact PR.no hno (by omega) hold
    · have hodd' : ¬ (hdN s : Int) < 2 * (kN s : Int) := by omega
      by_cases hy : nib s (hdN s - 1) = 0
      · have hno : ¬ rok s := fun h => ((pok_iff s).mpr h).2.2.2.1 hy
        simp [s49_0, e4, e6', e25, e26, hodd', hodd, addOff, hN, hwm, q1, q2', q3, htm, hgn, hy, tup]
        exact PR.no hno (by omega) hold
      · simp [s49_0, e4, e6', e25, e26, hodd', hodd, addOff, hN, hwm, q1, q2', q3, htm, hgn, hy, hsl]
        refine hww.mono ?_
        rintro r H5 ⟨rfl, rfl⟩
        by_cases hwh : wholeB (nibs s (hdN s)) = true
        · have hyes := PR.yes (b := b) (H0 := H) ((pok_iff s).mp ⟨hfit.1, hfit.2, fun h => absurd h hodd, hy, hwh⟩) (by omega) hold his hrd
          simp [hwh, e4, e6', hsl, tup]
          exact hyes
        · have hno : ¬ rok s := fun h => hwh h.2.2.1
          simp [hwh, tup]
          exact PR.no hno (by omega) hold
end
end Go.Proofs.YtlboioplemlneaaGreat.K
/- Lengths as bytes: what is written is read again. -/
set_option maxRecDepth 100000
set_option maxHeartbeats 2000000
set_option linter.unusedVariables false
set_option linter.unusedSimpArgs false
namespace Go.Proofs.YtlboioplemlneaaGreat.K
open Go Go.Proofs
theorem short_at0 (l : List Int) (k : Nat) : at0 (short l) k = at0 l k := by
  rcases Nat.lt_or_ge k (shortN l) with h | h
  · exact short_at h
  · rw [short_out h]
    have key : ∀ n, ∀ k, stp l n ≤ k → k < n → at0 l k = 0 := by
      intro n
      induction n with
      | zero => intro k _ h; omega
      | succ n ih =>
        intro k h1 h2
        simp only [stp] at h1
        split at h1
        · by_cases e : k = n
          · subst e; assumption
          · exact ih k h1 (by omega)
        · omega
    rcases Nat.lt_or_ge k l.length with h2 | h2
    · exact (key l.length k h h2).symm
    · unfold at0; rw [List.getD_eq_getElem?_getD, List.getElem?_eq_none h2]; rfl
theorem sumTo_more {f : Nat → Int} {n : Nat} : ∀ m, (∀ k, n ≤ k → f k = 0) → sumTo f (n + m) = sumTo f n
  | 0, _ => rfl
  | m + 1, h => by
    rw [show n + (m + 1) = n + m + 1 by omega]
    simp only [sumTo, sumTo_more m h, h (n + m) (by omega)]; omega
theorem cnt_more {l : List Int} {n : Nat} : ∀ m, (∀ k, n ≤ k → at0 l k = 0) → cntP l (n + m) = cntP l n
  | 0, _ => rfl
  | m + 1, h => by
    rw [show n + (m + 1) = n + m + 1 by omega]
    simp only [cntP, cnt_more m h, h (n + m) (by omega)]; simp
theorem cnt_congr {l l' : List Int} : ∀ n, (∀ k, at0 l k = at0 l' k) → cntP l n = cntP l' n
  | 0, _ => rfl
  | n + 1, h => by simp only [cntP, cnt_congr n h, h n]
theorem short_zero (l : List Int) (k : Nat) (h : shortN l ≤ k) : at0 l k = 0 := by rw [← short_at0]; exact short_out h
theorem short_total (l : List Int) : total (short l) = total l ∧ cntP (short l) (short l).length = cntP l l.length := by
  have hle := shortN_le l
  obtain ⟨m, hm⟩ := Nat.exists_eq_add_of_le hle
  constructor
  · unfold total
    rw [short_len]
    have h1 : sumTo (taken (short l)) (shortN l) = sumTo (taken l) (shortN l) := sumTo_congr _ fun k _ => by unfold taken; rw [short_at0]
    rw [h1]
    rw [hm]
    exact (sumTo_more m fun k hk => by unfold taken; rw [short_zero l k hk]; simp).symm
  · rw [short_len, cnt_congr _ (short_at0 l)]
    rw [hm]
    exact (cnt_more m fun k hk => short_zero l k hk).symm
theorem short_whole {l : List Int} (h : wholeB l = true) : wholeB (short l) = true := by
  obtain ⟨h1, h2⟩ := short_total l
  have hr : rightB (short l) = true := by
    have hr : rightB l = true := by simp only [wholeB, Bool.and_eq_true] at h; exact h.1
    simp only [rightB, Bool.and_eq_true, decide_eq_true_eq] at hr ⊢
    refine ⟨?_, by have := shortN_le l; rw [short_len]; omega⟩
    rw [List.all_eq_true] at hr ⊢
    intro x hx
    exact hr.1 x (List.mem_of_mem_take hx)
  simp only [wholeB, Bool.and_eq_true] at h ⊢
  refine ⟨hr, ?_⟩
  rw [h1, h2]; exact h.2
theorem short_short (l : List Int) : shortN (short l) = shortN l := by
  have key : ∀ n, stp (short l) n = stp l n := by
    intro n
    induction n with
    | zero => rfl
    | succ n ih => simp only [stp, short_at0, ih]
  unfold shortN
  rw [key]
  have hle := shortN_le l
  rw [short_len]
  -- stripping what is stripped changes nothing
  have h2 : ∀ n, stp l (stp l n) = stp l n := by
    intro n
    induction n with
    | zero => rfl
    | succ n ih =>
      simp only [stp]
      split
      · exact ih
      · rename_i h; simp only [stp]; rw [if_neg h]
  exact h2 l.length
/-- what is written is read again, whatever stands behind -/
theorem back {l : List Int} (h : wholeB l = true) (r : Bytes) : rok (tableOf l ++ r) ∧ nibs (tableOf l ++ r) (hdN (tableOf l ++ r)) = short l ∧ (tableOf l ++ r).drop (atN (tableOf l ++ r)) = r := by
  have hr : rightB l = true := by simp only [wholeB, Bool.and_eq_true] at h; exact h.1
  have hall := right_all hr
  have hlen := right_len hr
  have hpos := whole_pos h
  have hle := shortN_le l
  have hsat : ∀ k, 0 ≤ at0 (short l) k ∧ at0 (short l) k ≤ 11 := fun k => by rw [short_at0]; exact hall k
  have hu : ((u8 ((shortN l : Int) - 1)).toNat : Int) = (shortN l : Int) - 1 := u8_nat (by omega) (by omega)
  have hhd : hdN (tableOf l ++ r) = shortN l := by
    unfold hdN tableOf
    simp only [List.cons_append, List.headD_cons]; omega
  have htl : (tableOf l).length = 1 + (shortN l + 1) / 2 := by unfold tableOf; simp [tabs_len]; omega
  have hat : atN (tableOf l ++ r) = (tableOf l).length := by unfold atN; rw [hhd, htl]
  have hbyte : ∀ j, j < (shortN l + 1) / 2 → byteAt (tableOf l ++ r) (1 + j) = at0 (short l) (2 * j) + 16 * at0 (short l) (2 * j + 1) := by
    intro j hj
    have hg : (tableOf l ++ r)[1 + j]? = some (pairB (short l) j) := by
      rw [List.getElem?_append_left (by rw [htl]; omega)]
      unfold tableOf
      rw [Nat.add_comm 1 j, List.getElem?_cons_succ, tabs_get hj]
    rw [byteAt_get hg]
    unfold pairB
    have h1 := hsat (2 * j)
    have h2 := hsat (2 * j + 1)
    exact u8_nat (by omega) (by omega)
  have hn : nibs (tableOf l ++ r) (shortN l) = short l := by
    apply List.ext_getElem?
    intro i
    rcases Nat.lt_or_ge i (shortN l) with hi | hi
    · rw [nibs_get hi]
      have hsi : (short l)[i]? = some (at0 (short l) i) := by
        have hlt : i < (short l).length := by rw [short_len]; exact hi
        unfold at0
        rw [List.getD_eq_getElem?_getD, List.getElem?_eq_getElem hlt]; rfl
      rw [hsi]
      congr 1
      have hb := hbyte (i / 2) (by omega)
      have h1 := hsat (2 * (i / 2))
      have h2 := hsat (2 * (i / 2) + 1)
      unfold nib
      split
      · rename_i hm
        have e : 2 * (i / 2) + 1 = i := by omega
        have h3 : at0 (short l) (2 * (i / 2) + 1) = at0 (short l) i := by rw [e]
        rw [hb]; omega
      · rename_i hm
        have e : 2 * (i / 2) = i := by omega
        have h3 : at0 (short l) (2 * (i / 2)) = at0 (short l) i := by rw [e]
        rw [hb]; omega
    · rw [List.getElem?_eq_none (by rw [nibs_len]; exact hi), List.getElem?_eq_none (by rw [short_len]; exact hi)]
  refine ⟨⟨?_, ?_, ?_, ?_⟩, ?_, ?_⟩
  · unfold tableOf; simp
  · rw [hat]; simp
  · rw [hhd, hn]; exact short_whole h
  · rw [hhd, hn, hat, List.take_append_of_le_length (Nat.le_refl _), List.take_length]
    unfold tableOf
    rw [short_short]
    have : short (short l) = short l := short_full (by rw [short_short, short_len])
    rw [this]
  · rw [hhd]; exact hn
  · rw [hat]; simp
end Go.Proofs.YtlboioplemlneaaGreat.K
/- Lengths as bytes, by the document: without noughts at the end; written; read. -/
set_option maxRecDepth 100000
set_option maxHeartbeats 2000000
set_option linter.unusedVariables false
set_option linter.unusedSimpArgs false
namespace Go.Proofs.YtlboioplemlneaaGreat.K
open Go Go.Proofs
section
variable {H : Heap}
theorem rShort_t {v : Value} {l : List Int} (h : Is H v l) (hm : l.length ≤ 1000000) : Wf S 65 [v] H fun v' H' => H' = H ∧ Is H v' (short l) := by
  refine w65 rfl rfl _ ?_
  obtain ⟨a, c, rfl, hiv⟩ := h.iv
  simp [s65]
  refine l65_0 S (fun d e H' => d ≤ l.length ∧ H' = H ∧ e 0 = .slice a l.length c ∧ e 3 = .int .i64 d ∧ stp l d = shortN l) l.length ⟨by omega, rfl, by simp, by simp, rfl⟩ ?_
  rintro d e H' ⟨hn, rfl, e0, e3, hst⟩
  cases d with
  | zero =>
    have h0 : shortN l = 0 := by rw [← hst]; rfl
    obtain ⟨v', q1, q2⟩ := cut_short h
    rw [h0, show ((0 : Nat) : Int) = 0 from rfl] at q2
    simp [s65_0, e0, e3]
    rw [q2]
    exact ⟨rfl, q1⟩
  | succ n =>
    obtain ⟨b, o, cs, rw, rfl, hg, hc⟩ := hiv (by omega)
    obtain ⟨x, hx⟩ : ∃ x, l[n]? = some x := ⟨_, List.getElem?_eq_getElem (by omega)⟩
    have hcx := hc n x hx
    have hax := at0_of hx
    have hw : IntKind.i64.wrap ((n : Int) + 1 - 1) = n := by rw [wi (by omega) (by omega)]; omega
    have hw2 : IntKind.i64.wrap (n : Int) = n := wi (by omega) (by omega)
    have hp : (0 : Int) < (n : Int) + 1 := by omega
    have hn1 : n < l.length := by omega
    by_cases g : x = 0
    · subst g
      simp [s65_0, e0, e3, hp, hw, hw2, hn1, addOff, hg, hcx]
      refine ⟨n, by omega, by omega, rfl, ?_⟩
      rw [← hst]; simp [stp, hax]
    · have h0 : shortN l = n + 1 := by rw [← hst]; simp [stp, hax, g]
      obtain ⟨v', q1, q2⟩ := cut_short h
      rw [h0, show ((n + 1 : Nat) : Int) = (n : Int) + 1 by omega] at q2
      simp [s65_0, e0, e3, hp, hw, hw2, hn1, addOff, hg, hcx, g]
      rw [q2]
      exact ⟨rfl, q1⟩
theorem rTable_t {v : Value} {l : List Int} (h : Is H v l) (hlen : l.length ≤ 256) (hall : ∀ k, 0 ≤ at0 l k ∧ at0 l k ≤ 11) (hpos : 1 ≤ shortN l) : Wf S 36 [v] H fun r H' => r = .string (ofL (tableOf l)) ∧ Kp H.next H H' := by
  refine w36 rfl rfl _ ?_
  simp [s36]
  refine (rShort_t h (by omega)).mono ?_
  rintro v' H1 ⟨rfl, his⟩
  have hsl := short_len l
  have hsle := shortN_le l
  obtain ⟨a, c, rfl, hiv⟩ := his.iv
  have hw1 : IntKind.i64.wrap ((short l).length - 1) = ((shortN l : Int) - 1) := by rw [hsl]; exact wi (by omega) (by omega)
  have hw2 : IntKind.u8.wrap ((shortN l : Int) - 1) = (shortN l : Int) - 1 := wrap8 (by omega) (by omega)
  have hsat : ∀ k, 0 ≤ at0 (short l) k ∧ at0 (short l) k ≤ 11 := fun k => by
    rcases Nat.lt_or_ge k (shortN l) with hk | hk
    · rw [short_at hk]; exact hall k
    · rw [short_out hk]; omega
  simp [hw1, hw2, kFill, evPs, isTup, cellsL, wr]
  have hfirst : Value.int .u8 ((shortN l : Int) - 1) = bv (u8 ((shortN l : Int) - 1)) := bv_u8 (by omega) (by omega)
  rw [hfirst]
  have hone : Acc 5 1 H1.next (H1.next + 1) (H1.push (.cells [bv (u8 ((shortN l : Int) - 1))] 5 true)) (.slice (some ⟨H1.next, 0, none⟩) 1 1) 1 [bv (u8 ((shortN l : Int) - 1))] := Acc.one (Nat.le_refl _) rfl
  refine l36_0 S (fun d e H => TI H1 (.slice a (short l).length c) (short l) (u8 ((shortN l : Int) - 1)) d (e 3) (e 4) (e 5) H) ((shortN l + 1) / 2) ⟨0, by omega, by rw [hsl]; omega, Kp.push (Nat.le_refl _), by simp, by simp, ?_, by simp⟩ ?_
  · simpa [tabs, bvs] using hone
  rintro d e H ⟨j, hj, rfl, hk, hn, e3, hA, e5⟩
  rw [hsl] at hj
  by_cases h3 : 2 * j < shortN l
  · obtain ⟨b, o, cs, rw, rfl, hg0, hc⟩ := hiv (by omega)
    have hg := (hk.2 b (lt_cells hg0)).trans hg0
    obtain ⟨x, hx⟩ : ∃ x, (short l)[2 * j]? = some x := ⟨_, List.getElem?_eq_getElem (by omega)⟩
    have hcx := hc _ x hx
    have hax := at0_of hx
    have hxb := hsat (2 * j)
    rw [hax] at hxb
    have h3' : 2 * j < (short l).length := by omega
    have h3'' : (2 : Int) * j < (short l).length := by omega
    have h30 : (0 : Int) ≤ 2 * (j : Int) := by omega
    have htn : ((2 : Int) * (j : Int)).toNat = 2 * j := by omega
    have hwi : IntKind.i64.wrap (2 * (j : Int) + 1) = 2 * (j : Int) + 1 := wi (by omega) (by omega)
    have hwi2 : IntKind.i64.wrap (2 * (j : Int) + 2) = 2 * (j : Int) + 2 := wi (by omega) (by omega)
    -- what is laid at the end
    have hrest : ∀ (y : Int), 0 ≤ y → y ≤ 11 → at0 (short l) (2 * j + 1) = y → ∃ v' H', kApp (H.push (.cells [.int .u8 (IntKind.u8.wrap (x + 16 * y))] 5 true)) 5 1 1 (e 4) 1 [.int .u8 (IntKind.u8.wrap (x + 16 * y))] = some (v', H') ∧ TI H1 (.slice (some ⟨b, o, none⟩) (short l).length c) (short l) (u8 ((shortN l : Int) - 1)) ((shortN l + 1) / 2 - (j + 1)) (.slice (some ⟨b, o, none⟩) (short l).length c) v' (.int .i64 (2 * (j : Int) + 2)) H' := by
      intro y hy0 hy1 hay
      have hpb : pairB (short l) j = u8 (x + 16 * y) := by unfold pairB; rw [hax, hay]
      have hwb : IntKind.u8.wrap (x + 16 * y) = x + 16 * y := wrap8 (by omega) (by omega)
      rw [hwb, bv_u8 (by omega) (by omega)]
      obtain ⟨v2, H2, hap, hA2, hn2, hk2⟩ := hA.app (bytes := 1) (new := [bv (u8 (x + 16 * y))]) hn (Nat.le_refl _) rfl (by unfold roomMax; omega)
      refine ⟨v2, H2, hap, j + 1, by omega, by omega, ⟨by have := hk.1; omega, fun k hk' => (hk2 k (by omega) (.inl hk')).trans (hk.2 k hk')⟩, by omega, rfl, ?_, by congr 1⟩
      have ht : bvs (u8 ((shortN l : Int) - 1) :: tabs (short l) (j + 1)) = bvs (u8 ((shortN l : Int) - 1) :: tabs (short l) j) ++ [bv (u8 (x + 16 * y))] := by
        rw [tabs_succ, hpb]; simp [bvs]
      rw [ht]; exact hA2
    by_cases h4 : 2 * j + 1 < shortN l
    · obtain ⟨y, hy⟩ : ∃ y, (short l)[2 * j + 1]? = some y := ⟨_, List.getElem?_eq_getElem (by omega)⟩
      have hcy := hc _ y hy
      have hay := at0_of hy
      have hyb := hsat (2 * j + 1)
      rw [hay] at hyb
      have h4' : (2 : Int) * j + 1 < (short l).length := by omega
      have h41 : (0 : Int) ≤ 2 * (j : Int) + 1 := by omega
      have htn1 : ((2 : Int) * (j : Int) + 1).toNat = 2 * j + 1 := by omega
      have hwm : IntKind.i64.wrap (16 * y) = 16 * y := wi (by omega) (by omega)
      have hwa : IntKind.i64.wrap (x + 16 * y) = x + 16 * y := wi (by omega) (by omega)
      obtain ⟨v2, H2, hap, hT⟩ := hrest y hyb.1 hyb.2 hay
      have hcy' : cs[o + (2 * j + 1)]? = some (.int .i64 y) := hcy
      simp [s36_0, e3, e5, h3', h3'', h30, htn, addOff, hg, hcx, hwi, h4', h41, htn1, hcy', hwm, hwa, kFill, evPs, isTup, cellsL, wr, kRow, rd, hap, hwi2]
      exact ⟨_, by rw [hsl]; omega, hT⟩
    · have h4' : ¬ (2 : Int) * j + 1 < (short l).length := by omega
      obtain ⟨v2, H2, hap, hT⟩ := hrest 0 (by omega) (by omega) (short_out (by omega))
      simp only [Int.mul_zero, Int.add_zero] at hap
      simp [s36_0, e3, e5, h3', h3'', h30, htn, addOff, hg, hcx, hwi, h4', kFill, evPs, isTup, cellsL, wr, kRow, rd, hap, hwi2]
      exact ⟨_, by rw [hsl]; omega, hT⟩
  · have h5 : j = (shortN l + 1) / 2 := by omega
    have h3' : ¬ (2 : Int) * j < (short l).length := by omega
    have h3'' : ¬ 2 * j < (short l).length := by omega
    obtain ⟨a4, c4, he4, hrow⟩ := hA.row
    simp [s36_0, e3, e5, he4, h3', h3'']
    rw [s_b2s hrow]
    refine ⟨?_, hk⟩
    rw [h5]; rfl
theorem rRead_t (s : Bytes) (hs : s.length ≤ 100000) : Wf S 19 [.string (ofL s)] H fun v H' => Kp H.next H H' ∧ RR s v H' := by
  refine w19 rfl rfl _ ?_
  by_cases h0 : s = []
  · have hr : ¬ rok s := fun h => h.1 h0
    have := RR.no (H' := H) hr
    simp [s19, bs_ofL, s_eql, h0, tup]
    exact ⟨Kp.refl _ _, h0 ▸ this⟩
  cases s with
  | nil => exact absurd rfl h0
  | cons c0 s0 =>
  obtain ⟨s, hsd⟩ : ∃ s, s = c0 :: s0 := ⟨_, rfl⟩
  rw [← hsd] at hs h0 ⊢
  have hget0 : s[0]? = some c0 := by rw [hsd]; rfl
  have hc0 := c0.toNat_lt
  have hhd : (hdN s : Int) = (c0.toNat : Int) + 1 := by rw [hsd]; simp [hdN]
  have hbd := hdN_bd s
  have hwc : IntKind.i64.wrap (c0.toNat : Int) = c0.toNat := wi (by omega) (by omega)
  have hw1 : IntKind.i64.wrap ((c0.toNat : Int) + 1) = hdN s := by rw [wi (by omega) (by omega)]; omega
  have hw2 : IntKind.i64.wrap ((hdN s : Int) + 1) = (hdN s : Int) + 1 := wi (by omega) (by omega)
  have hq : ((hdN s : Int) + 1).tdiv 2 = ((hdN s : Int) + 1) / 2 := Int.tdiv_eq_ediv_of_nonneg (by omega)
  have hw3 : IntKind.i64.wrap (((hdN s : Int) + 1) / 2) = ((hdN s : Int) + 1) / 2 := wi (by omega) (by omega)
  have hw4 : IntKind.i64.wrap (1 + ((hdN s : Int) + 1) / 2) = (atN s : Int) := by rw [wi (by omega) (by omega)]; unfold atN; omega
  have hid : ∀ {K : Kv}, run S (.idS (.c (.string (ofL s))) (.c (.int .i64 0))) [] H K = K (bv c0) H := fun {K} => s_at (i := 0) hget0
  simp only [s19, bs_ofL, run_bin, s_eql, List.map_nil, decide_eq_false h0, oV_some, jn_eq, cnd_false, sq_normal, upd_i]
  by_cases h1 : s.length < atN s
  · have hr : ¬ rok s := fun h => by have := h.2.1; omega
    have hno := RR.no (H' := H) hr
    have h1' : (s.length : Int) < atN s := by omega
    simp [hid, bv_int, hwc, hw1, hw2, hq, hw3, hw4, ofL_size, h1, tup]
    exact ⟨Kp.refl _ _, hno⟩
  have h1' : ¬ (s.length : Int) < atN s := by omega
  simp [hid, bv_int, hwc, hw1, hw2, hq, hw3, hw4, ofL_size, h1]
  refine l19_0 S (fun d e H' => RI H s d (e 0) (e 4) (e 5) (e 6) (e 7) H') (hdN s) ⟨0, by omega, by omega, Kp.refl _ _, Nat.le_refl _, by simp, by simp, by simp, by simpa [nibs, ints] using Acc.nil, by simp⟩ ?_
  rintro d e H1 ⟨i, hi, rfl, hk, hn, e0, e4, e5, hA, e7⟩
  by_cases h3 : i < hdN s
  · have hat : 1 + i / 2 < s.length := by unfold atN at h1; omega
    obtain ⟨b, hb⟩ : ∃ b, s[1 + i / 2]? = some b := ⟨_, List.getElem?_eq_getElem hat⟩
    have hbb := b.toNat_lt
    have hba := byteAt_get hb
    have hq2 : (i : Int).tdiv 2 = (i : Int) / 2 := Int.tdiv_eq_ediv_of_nonneg (by omega)
    have hm2 : (i : Int).tmod 2 = (i : Int) % 2 := Int.tmod_eq_emod_of_nonneg (by omega)
    have hq3 : (b.toNat : Int).tdiv 16 = (b.toNat : Int) / 16 := Int.tdiv_eq_ediv_of_nonneg (by omega)
    have hm3 : ((b.toNat : Int) / 16).tmod 16 = ((b.toNat : Int) / 16) % 16 := Int.tmod_eq_emod_of_nonneg (by omega)
    have hm4 : (b.toNat : Int).tmod 16 = (b.toNat : Int) % 16 := Int.tmod_eq_emod_of_nonneg (by omega)
    have hw5 : IntKind.i64.wrap ((i : Int) / 2) = (i : Int) / 2 := wi (by omega) (by omega)
    have hw6 : IntKind.i64.wrap (1 + (i : Int) / 2) = 1 + (i : Int) / 2 := wi (by omega) (by omega)
    have hw7 : IntKind.i64.wrap ((i : Int) + 1) = (i : Int) + 1 := wi (by omega) (by omega)
    have hwb : IntKind.i64.wrap (b.toNat : Int) = b.toNat := wi (by omega) (by omega)
    have hwd : IntKind.i64.wrap ((b.toNat : Int) / 16) = (b.toNat : Int) / 16 := wi (by omega) (by omega)
    have hid2 : ∀ {K : Kv}, run S (.idS (.c (.string (ofL s))) (.c (.int .i64 (1 + (i : Int) / 2)))) [] H1 K = K (bv b) H1 := fun {K} => by
      rw [show 1 + (i : Int) / 2 = ((1 + i / 2 : Nat) : Int) by omega]; exact s_at hb
    have hlen := nibs_len s i
    obtain ⟨v', H', hap, hA', hn', hk'⟩ := hA.app (bytes := 8) (new := [.int .i64 (nib s i)]) hn (Nat.le_refl _) rfl (by unfold roomMax; omega)
    have hT : RI H s (hdN s - (i + 1)) (.string (ofL s)) (.int .i64 (hdN s)) (.int .i64 (atN s)) v' (.int .i64 ((i : Int) + 1)) H' := by
      refine ⟨i + 1, by omega, by omega, ⟨by have := hk.1; omega, fun k hk0 => (hk' k (by omega) (.inl hk0)).trans (hk.2 k hk0)⟩, by omega, rfl, rfl, rfl, ?_, by congr 1⟩
      rw [nibs_succ]
      have : ints (nibs s i ++ [nib s i]) = ints (nibs s i) ++ [.int .i64 (nib s i)] := by simp [ints]
      rw [this]; exact hA'
    by_cases g : i % 2 = 1
    · have g' : (i : Int) % 2 = 1 := by omega
      have hne : ((b.toNat : Int) / 16) % 16 = nib s i := by unfold nib; rw [if_pos g, hba]; omega
      simp [-run_idS, s19_0, e0, e4, e7, h3, hq2, hw5, hw6, hid2]
      simp [bv_int, hwb, hm2, g', e0, e4, e5, e7, hq3, hwd, hm3, hne, kFill, evPs, isTup, cellsL, wr, kRow, rd, hap, hw7]
      exact ⟨_, by omega, hT⟩
    · have g' : ¬ (i : Int) % 2 = 1 := by omega
      have hne : (b.toNat : Int) % 16 = nib s i := by unfold nib; rw [if_neg g, hba]
      simp [-run_idS, s19_0, e0, e4, e7, h3, hq2, hw5, hw6, hid2]
      simp [bv_int, hwb, hm2, g', e0, e4, e5, e7, hm4, hne, kFill, evPs, isTup, cellsL, wr, kRow, rd, hap, hw7]
      exact ⟨_, by omega, hT⟩
  · have h5 : i = hdN s := by omega
    subst h5
    have his := acc_is hA (nibs_len s (hdN s))
    obtain ⟨a6, c6, he6, hiv⟩ := his.iv
    rw [nibs_len] at he6
    simp [s19_0, e0, e4, e5, e7, he6]
    rw [he6] at his
    have hww := rWhole_t (c := c6) hiv (by rw [nibs_len]; omega)
    rw [nibs_len] at hww
    refine hww.mono ?_
    rintro r H2 ⟨rfl, rfl⟩
    by_cases hwh : wholeB (nibs s (hdN s)) = true
    · have hri : rightB (nibs s (hdN s)) = true := by simp only [wholeB, Bool.and_eq_true] at hwh; exact hwh.1
      have hsa : (atN s : Int) ≤ s.length := by omega
      have hsa' : atN s ≤ s.length := by omega
      have hup : ∀ {K : Kv}, run S (.slS (.c (.string (ofL s))) none (some (.c (.int .i64 (atN s))))) [] H2 K = K (.string (ofL (s.take (atN s)))) H2 := fun {K} => by
        rw [s_upto, if_pos ⟨by omega, hsa⟩]; simp
      simp [hwh, e0, e5, hup]
      refine (rTable_t his (by rw [nibs_len]; omega) (right_all hri) (whole_pos hwh)).mono ?_
      rintro r H3 ⟨rfl, hk3⟩
      have hK : Kp H.next H H3 := hk.trans (hk3.mono hn)
      by_cases ht : tableOf (nibs s (hdN s)) = s.take (atN s)
      · have hyes := RR.yes (s := s) ⟨h0, hsa', hwh, ht⟩ (his.kp hk3)
        simp [s_neq, ht, tup, he6, e5]
        exact ⟨hK, hyes⟩
      · have hno := RR.no (s := s) (H' := H3) (fun h => ht h.2.2.2)
        simp [s_neq, ht, tup]
        exact ⟨hK, hno⟩
    · have hno := RR.no (s := s) (H' := H2) (fun h => hwh h.2.2.1)
      simp [hwh, tup]
      exact ⟨hk, hno⟩
end
end Go.Proofs.YtlboioplemlneaaGreat.K
