/- Lengths as bytes: what the program reads. -/
import Derived.Test.YtpcpelbbeofenaaPLitD
set_option maxRecDepth 100000
set_option maxHeartbeats 2000000
set_option linter.unusedVariables false
set_option linter.unusedSimpArgs false
namespace Go.Proofs.Ytpcpelbbeofenaa.K
open Go Go.Proofs
def body (s : Bytes) : Bytes := (s.drop 1).take (kN s)
def first (s : Bytes) : UInt8 := s.headD 0
section
variable {H : Heap}
/-- what Read comes to: the reader stands at b -/
def PR (s : Bytes) (b : Nat) (H0 : Heap) (v : Value) (H' : Heap) : Prop :=
  H0.next ≤ H'.next ∧ (∀ k, k < H0.next → k ≠ b → H'.get k = H0.get k) ∧ if rok s then ∃ v', v = .tuple #[v', .bool true] ∧ Is H' v' (nibs s (hdN s)) ∧ Rd H' b (s.drop (atN s)) false else v = .tuple #[.slice none 0 0, .bool false]
theorem PR.no {s : Bytes} {b : Nat} {H0 H' : Heap} (h : ¬ rok s) (h1 : H0.next ≤ H'.next) (h2 : ∀ k, k < H0.next → k ≠ b → H'.get k = H0.get k) : PR s b H0 (.tuple #[.slice none 0 0, .bool false]) H' := by
  unfold PR; rw [if_neg h]; exact ⟨h1, h2, rfl⟩
theorem PR.yes {s : Bytes} {b : Nat} {H0 H' : Heap} {v' : Value} (h : rok s) (h1 : H0.next ≤ H'.next) (h2 : ∀ k, k < H0.next → k ≠ b → H'.get k = H0.get k) (hi : Is H' v' (nibs s (hdN s))) (hr : Rd H' b (s.drop (atN s)) false) : PR s b H0 (.tuple #[v', .bool true]) H' := by
  unfold PR; rw [if_pos h]; exact ⟨h1, h2, v', rfl, hi, hr⟩
/-- the loop's state: numbers at N, bytes at N + 1 -/
def LI (H0 : Heap) (s : Bytes) (N : Nat) (d : Nat) (e4 e6 e24 e25 e26 : Value) (H : Heap) : Prop := ∃ j : Nat, j ≤ kN s ∧ d = kN s - j ∧ N + 2 ≤ H.next ∧ (∀ k, k < N → H.get k = H0.get k) ∧ H.get N = .cells (ints (lay s j)) 3 true ∧ H.get (N + 1) = .cells (bvs (body s)) 5 true ∧
  e4 = .int .i64 (hdN s) ∧ e6 = .slice (some ⟨N, 0, none⟩) (2 * j) (hdN s + 1) ∧ e24 = .slice (some ⟨N + 1, 0, none⟩) (kN s) capx ∧ e25 = .int .i64 (kN s) ∧ e26 = .int .i64 j
theorem Read_t {b : Nat} {s : Bytes} (h : Rd H b s false) (hs : s.length ≤ 100000) : Wf S 39 [.pointer (some ⟨b, 0, none⟩)] H fun v H' => PR s b H v H' := by
  refine w39 rfl rfl _ ?_
  have hlt := h.lt
  simp [s39]
  refine (Fixed1_t h).mono ?_
  rintro v H1 ⟨rfl, hr1, hn1, hold1⟩
  have hbd := hdN_bd s
  have hkN : kN s = (hdN s + 1) / 2 := rfl
  have hatN : atN s = 1 + kN s := rfl
  have hhead : (rawOut s false 1).headD 0 = first s := by
    unfold rawOut first
    cases s with
    | nil => simp
    | cons c s => simp
  have hc0 := (first s).toNat_lt
  have hhd : ((first s).toNat : Int) + 1 = hdN s := by unfold hdN first; omega
  have hwc : IntKind.i64.wrap ((first s).toNat : Int) = (first s).toNat := wi (by omega) (by omega)
  have hw1 : IntKind.i64.wrap (((first s).toNat : Int) + 1) = hdN s := by rw [wi (by omega) (by omega)]; exact hhd
  have hw2 : IntKind.i64.wrap ((hdN s : Int) + 1) = (hdN s : Int) + 1 := wi (by omega) (by omega)
  have hq : ((hdN s : Int) + 1).tdiv 2 = (kN s : Int) := by rw [Int.tdiv_eq_ediv_of_nonneg (by omega)]; omega
  have hw3 : IntKind.i64.wrap (kN s : Int) = (kN s : Int) := wi (by omega) (by omega)
  rw [hhead]
  simp only [run_cvt, hwc, run_bin, kb_add, oV_some, hw1, hw2, kb_quo, hq, hw3]
  try simp [hw3]
  refine (Raw_t hr1 _).mono ?_
  rintro v H2 ⟨rfl, rfl⟩
  have hlt1 : b < H1.next := by omega
  have hr2 := rd_put (H := H1) (l := rawL (rawL s false 1) (rawB s false 1) (kN s)) (bad := rawB (rawL s false 1) (rawB s false 1) (kN s)) hlt1
  have hn2 : (H1.put b (RdB (rawL (rawL s false 1) (rawB s false 1) (kN s)) (rawB (rawL s false 1) (rawB s false 1) (kN s)))).next = H1.next := next_put
  have hold2 : ∀ k, k < H.next → k ≠ b → (H1.put b (RdB (rawL (rawL s false 1) (rawB s false 1) (kN s)) (rawB (rawL s false 1) (rawB s false 1) (kN s)))).get k = H.get k := fun k h1 h2 => (get_put_ne h2).trans (hold1 k h1 h2)
  try simp only [Int.toNat_natCast]
  generalize H1.put b (RdB (rawL (rawL s false 1) (rawB s false 1) (kN s)) (rawB (rawL s false 1) (rawB s false 1) (kN s))) = H2 at *
  try simp
  refine (Bad_t hr2).mono ?_
  rintro v H3 ⟨rfl, rfl⟩
  by_cases hbad : rawB (rawL s false 1) (rawB s false 1) (kN s) = true
  · have hno : ¬ rok s := by
      rintro ⟨h0, hat, _⟩
      have h1 : ¬ s.length < 1 := by omega
      simp [rawB, rawL, h1] at hbad
      omega
    simp [hbad, tup]
    exact PR.no hno (by omega) hold2
  have hbad' : rawB (rawL s false 1) (rawB s false 1) (kN s) = false := by simpa using hbad
  have hfit : s ≠ [] ∧ atN s ≤ s.length := by
    have h1 : ¬ s.length < 1 := by
      intro h1
      simp [rawB, h1] at hbad'
    simp [rawB, rawL, h1] at hbad'
    refine ⟨fun e => by rw [e] at h1; simp at h1, by omega⟩
  have hrout : rawOut (rawL s false 1) (rawB s false 1) (kN s) = body s := by
    unfold body
    have h1 : ¬ s.length < 1 := by omega
    have h2 : ¬ s.length - 1 < kN s := by omega
    simp [rawOut, rawL, rawB, h1, h2]
    try omega
  have hrl : rawL (rawL s false 1) (rawB s false 1) (kN s) = s.drop (atN s) := by
    have h1 : ¬ s.length < 1 := by omega
    have h2 : ¬ s.length - 1 < kN s := by omega
    simp [rawL, rawB, h1, h2, List.drop_drop, hatN]
    try omega
  rw [hbad', hrl] at hr2
  rw [hrout]
  have hlen : (body s).length = kN s := by unfold body; simp; omega
  have hmks : kMks H3 3 [.int .i64 0] 8 (.int .i64 0) (.int .i64 ((hdN s : Int) + 1)) = some (.slice (some ⟨H3.next, 0, none⟩) 0 (hdN s + 1), H3.push (.cells (zeros [.int .i64 0] (hdN s + 1)) 3 true)) := by
    have m4 : ((hdN s : Int) + 1).toNat = hdN s + 1 := by omega
    simp only [kMks]
    rw [if_pos (by omega), m4]; rfl
  simp [hbad', hw2, hmks]
  rw [s_s2b (by unfold roomMax; omega), hlen]
  try simp
  refine l39_0 S (fun d e H' => LI H3 s H3.next d (e 4) (e 6) (e 24) (e 25) (e 26) H') (kN s) ⟨0, by omega, by omega, by simp, fun k hk => by simp [hk, show k < H3.next + 1 by omega], ?_, ?_, by simp, by simp, by simp, by simp, by simp⟩ ?_
  · simp [lay, nibs, ints, zeros]
  · simp
  rintro d e H4 ⟨j, hj, rfl, hn4, hold4, hN, hB, e4, e6, e24, e25, e26⟩
  by_cases h3 : j < kN s
  · have hjs : 1 + j < s.length := by omega
    obtain ⟨c, hc⟩ : ∃ c, s[1 + j]? = some c := ⟨_, List.getElem?_eq_getElem hjs⟩
    have hcb := c.toNat_lt
    have hcg : (bvs (body s))[j]? = some (bv c) := by
      simp only [bvs, body, List.getElem?_map]
      rw [List.getElem?_take, if_pos h3, List.getElem?_drop, hc]; rfl
    have hbyte := byteAt_get hc
    have hx : nib s (2 * j) = (c.toNat : Int) % 16 := by unfold nib; rw [if_neg (by omega), show 1 + 2 * j / 2 = 1 + j by omega, hbyte]
    have hy : nib s (2 * j + 1) = (c.toNat : Int) / 16 := by unfold nib; rw [if_pos (by omega), show 1 + (2 * j + 1) / 2 = 1 + j by omega, hbyte]
    have hwx : IntKind.i64.wrap ((c.toNat : Int) % 16) = (c.toNat : Int) % 16 := wi (by omega) (by omega)
    have hwy : IntKind.i64.wrap ((c.toNat : Int) / 16) = (c.toNat : Int) / 16 := wi (by omega) (by omega)
    have hwj : IntKind.i64.wrap ((j : Int) + 1) = (j : Int) + 1 := wi (by omega) (by omega)
    have hfits : 2 * (j + 1) ≤ hdN s + 1 := by omega
    have hll := lay_len (s := s) (j := j) (by omega)
    have hls := lay_succ (s := s) (j := j) hfits
    rw [hx, hy] at hls
    have hap : kApp (H4.push (.cells [.int .i64 ((c.toNat : Int) % 16), .int .i64 ((c.toNat : Int) / 16)] 3 true)) 3 1 8 (.slice (some ⟨H3.next, 0, none⟩) (2 * j) (hdN s + 1)) 2 [.int .i64 ((c.toNat : Int) % 16), .int .i64 ((c.toNat : Int) / 16)] =
        some (.slice (some ⟨H3.next, 0, none⟩) (2 * j + 2) (hdN s + 1), (H4.push (.cells [.int .i64 ((c.toNat : Int) % 16), .int .i64 ((c.toNat : Int) / 16)] 3 true)).put H3.next (.cells (ints (lay s (j + 1))) 3 true)) := by
      have hg : (H4.push (.cells [.int .i64 ((c.toNat : Int) % 16), .int .i64 ((c.toNat : Int) / 16)] 3 true)).get H3.next = .cells (ints (lay s j)) 3 true := by rw [get_old (by omega)]; exact hN
      have hcx : ¬ hdN s + 1 = capx := by
        have : 1000 < capx := by decide
        omega
      have hro : (2 * j + 2) * 8 ≤ roomMax ∧ 2 * j + 2 ≤ roomMax := by unfold roomMax; omega
      have hle : 2 * j + 2 ≤ hdN s + 1 := by omega
      have hil : (ints (lay s j)).length = hdN s + 1 := by simp [ints, hll]
      have hdl : decide (2 * j + 2 ≤ (ints (lay s j)).length) = true := by rw [hil]; simp; omega
      simp only [kApp, hg, hro, and_self, if_true, hcx, if_false, hle, Bool.true_and, hdl, Nat.mul_one, Nat.zero_add]
      rw [hls]; simp
    simp [s39_0, e4, e6, e24, e25, e26, h3, addOff, hB, hcg, bv_int, kb_and15, kb_shr4, hwx, hwy, kFill, evPs, isTup, cellsL, wr, kRow, rd, hap, hwj]
    refine ⟨kN s - (j + 1), by omega, j + 1, by omega, rfl, by simp [next_put]; omega, fun k hk => ?_, get_put_eq (by simp; omega), ?_, rfl, by congr 1, rfl, rfl, by congr 1⟩
    · rw [get_put_ne (by omega), get_old (by omega)]; exact hold4 k hk
    · rw [get_put_ne (by omega), get_old (by omega)]; exact hB
  · have h5 : j = kN s := by omega
    subst h5
    have hll := lay_len (s := s) (j := kN s) (by omega)
    have hpr : PR s b H = PR s b H := rfl
    have hiff := pok_iff s
    have hold : ∀ k, k < H.next → k ≠ b → H4.get k = H.get k := fun k hk hkb => (hold4 k (by omega)).trans (hold2 k hk hkb)
    have hrd : Rd H4 b (s.drop (atN s)) false := (hold4 b (by omega)).trans hr2
    have hgn : (ints (lay s (kN s)))[hdN s - 1]? = some (.int .i64 (nib s (hdN s - 1))) := by
      simp only [ints, List.getElem?_map]; rw [lay_get (by omega)]; rfl
    have hwm : IntKind.i64.wrap ((hdN s : Int) - 1) = (hdN s : Int) - 1 := wi (by omega) (by omega)
    have htm : ((hdN s : Int) - 1).toNat = hdN s - 1 := by omega
    have q1 : (0 : Int) ≤ (hdN s : Int) - 1 := by omega
    have q2 : (hdN s : Int) - 1 < ((2 * kN s : Nat) : Int) := by omega
    have q2' : (hdN s : Int) - 1 < 2 * (kN s : Int) := by omega
    have q3 : (1 : Int) ≤ (hdN s : Int) := by omega
    have e6' : e 6 = .slice (some ⟨H3.next, 0, none⟩) (2 * kN s) (hdN s + 1) := e6
    have hsl : ∀ {K : Kv}, run S (.slc 3 1 (.c (.slice (some ⟨H3.next, 0, none⟩) (2 * kN s) (hdN s + 1))) none (some (.c (.int .i64 (hdN s))))) [] H4 K = K (.slice (some ⟨H3.next, 0, none⟩) (hdN s) (if hdN s + 1 = capx then capx else hdN s + 1)) H4 := fun {K} => run_slc0 (.inr (by omega)) hN (by omega)
    have his : Is H4 (.slice (some ⟨H3.next, 0, none⟩) (hdN s) (if hdN s + 1 = capx then capx else hdN s + 1)) (nibs s (hdN s)) := by
      refine .inr ⟨H3.next, 0, _, _, _, by rw [nibs_len], ?_, hN, fun i x hx => ?_⟩
      · rw [nibs_len]
        by_cases hc : hdN s + 1 = capx
        · left; rw [if_pos hc]
        · right; rw [if_neg hc]; omega
      · have hi := (List.getElem?_eq_some_iff.1 hx).1
        rw [nibs_len] at hi
        rw [nibs_get hi] at hx
        simp only [Nat.zero_add, ints, List.getElem?_map]
        rw [lay_get (by omega)]
        simpa using hx
    obtain ⟨a6, c6, he6, hiv⟩ := his.iv
    have hlast : ∀ (Q : Value → Heap → Prop), (∀ v', Q v' H4 → True) → True := fun _ _ => trivial
    have hww := Whole_t (c := c6) hiv (by rw [nibs_len]; omega)
    rw [← he6] at hww
    have t1 : (hdN s : Int) < 2 * (kN s : Int) ↔ hdN s < 2 * kN s := by omega
    by_cases hodd : hdN s < 2 * kN s
    · have hodd' : (hdN s : Int) < 2 * (kN s : Int) := by omega
      have hgm : (ints (lay s (kN s)))[hdN s]? = some (.int .i64 (nib s (hdN s))) := by
        simp only [ints, List.getElem?_map]; rw [lay_get hodd]; rfl
      by_cases hz : nib s (hdN s) = 0
      · by_cases hy : nib s (hdN s - 1) = 0
        · have hno : ¬ rok s := fun h => ((pok_iff s).mpr h).2.2.2.1 hy
          simp [s39_0, e4, e6', e25, e26, hodd', hodd, addOff, hN, hgm, hz, hwm, q1, q2', q3, htm, hgn, hy, tup]
          exact PR.no hno (by omega) hold
        · simp [s39_0, e4, e6', e25, e26, hodd', hodd, addOff, hN, hgm, hz, hwm, q1, q2', q3, htm, hgn, hy, hsl]
          refine hww.mono ?_
          rintro r H5 ⟨rfl, rfl⟩
          by_cases hwh : wholeB (nibs s (hdN s)) = true
          · have hyes := PR.yes (b := b) (H0 := H) ((pok_iff s).mp ⟨hfit.1, hfit.2, fun _ => hz, hy, hwh⟩) (by omega) hold his hrd
            simp [hwh, e4, e6', hsl, tup]
            exact hyes
          · have hno : ¬ rok s := fun h => hwh h.2.2.1
            simp [hwh, tup]
            exact PR.no hno (by omega) hold
      · have hno : ¬ rok s := fun h => hz (((pok_iff s).mpr h).2.2.1 hodd)
        simp [s39_0, e4, e6', e25, e26, hodd', hodd, addOff, hN, hgm, hz, tup]
        exact PR.no hno (by omega) hold
    · have hodd' : ¬ (hdN s : Int) < 2 * (kN s : Int) := by omega
      by_cases hy : nib s (hdN s - 1) = 0
      · have hno : ¬ rok s := fun h => ((pok_iff s).mpr h).2.2.2.1 hy
        simp [s39_0, e4, e6', e25, e26, hodd', hodd, addOff, hN, hwm, q1, q2', q3, htm, hgn, hy, tup]
        exact PR.no hno (by omega) hold
      · simp [s39_0, e4, e6', e25, e26, hodd', hodd, addOff, hN, hwm, q1, q2', q3, htm, hgn, hy, hsl]
        refine hww.mono ?_
        rintro r H5 ⟨rfl, rfl⟩
        by_cases hwh : wholeB (nibs s (hdN s)) = true
        · have hyes := PR.yes (b := b) (H0 := H) ((pok_iff s).mp ⟨hfit.1, hfit.2, fun h => absurd h hodd, hy, hwh⟩) (by omega) hold his hrd
          simp [hwh, e4, e6', hsl, tup]
          exact hyes
        · have hno : ¬ rok s := fun h => hwh h.2.2.1
          simp [hwh, tup]
          exact PR.no hno (by omega) hold
end
end Go.Proofs.Ytpcpelbbeofenaa.K
