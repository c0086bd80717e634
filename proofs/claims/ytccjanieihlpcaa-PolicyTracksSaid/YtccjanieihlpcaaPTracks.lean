/- The statement PolicyTracks: whatever is told of replicas, how far each one is behind, and who is, is the document's. Proved for every number of replicas, every list of pairs, every total. Condition: none. -/
import Derived.Test.YtccjanieihlpcaaKPolSh
import Derived.Test.YtccjanieihlpcaaKTrSh
import Derived.Test.YtccjanieihlpcaaKSimp
import Derived.Test.YtccjanieihlpcaaKArg
import Derived.Test.YtccjanieihlpcaaRows
import Derived.WalkKit
import Derived.ProofKit
import Derived.OpenShut
set_option maxRecDepth 100000
set_option maxHeartbeats 2000000
set_option linter.unusedVariables false
set_option linter.unusedSimpArgs false
namespace Go.Proofs.Ytccjanieihlpcaa.K
open Go Go.Proofs

def S : Sys := ⟨F, M, fun _ => none⟩
theorem S_ok : SysOK Go.Proofs.Try.prog S := ⟨M_ok, by kernel_rfl, F_ok, fun f p h => by cases h⟩
theorem wi {x : Int} (h1 : -9223372036854775808 ≤ x) (h2 : x ≤ 9223372036854775807) : IntKind.i64.wrap x = x := by
  rw [IntKind.wrap_i64]; omega
def ints (l : List Int) : List Value := l.map (.int .i64)
/-- a tracker at bt, of the numbers l at bl -/
def Trk (H : Heap) (bt bl : Nat) (l : List Int) : Prop := H.get bt = .cells [.slice (some ⟨bl, 0, none⟩) l.length l.length] 98 true ∧ H.get bl = .cells (ints l) 3 true
variable {H : Heap} {bt bl : Nat} {l : List Int}
theorem Count_t (h : Trk H bt bl l) : Wf S 30 [.pointer (some ⟨bt, 0, none⟩)] H fun v H' => H' = H ∧ v = .int .i64 l.length := by
  refine w30 rfl rfl _ ?_
  simp [s30, kEq, addOff, h.1]
theorem in_t (h : Trk H bt bl l) (i : Int) : Wf S 62 [.pointer (some ⟨bt, 0, none⟩), .int .i64 i] H fun v H' => H' = H ∧ v = .bool (decide (1 ≤ i ∧ i ≤ l.length)) := by
  refine w62 rfl rfl _ _ ?_
  by_cases h1 : 1 ≤ i
  · simp [s62, h1]
    refine (Count_t h).mono ?_
    rintro v H2 ⟨rfl, rfl⟩
    simp [h1]
  · simp [s62, h1]
theorem Get_t (h : Trk H bt bl l) (i : Int) (hi : i ≤ 9223372036854775807) : Wf S 29 [.pointer (some ⟨bt, 0, none⟩), .int .i64 i] H fun v H' => H' = H ∧ v = .int .i64 (if 1 ≤ i ∧ i ≤ l.length then l.getD (i - 1).toNat 0 else 0) := by
  refine w29 rfl rfl _ _ ?_
  simp [s29]
  refine (in_t h i).mono ?_
  rintro v H2 ⟨rfl, rfl⟩
  by_cases h1 : 1 ≤ i ∧ i ≤ l.length
  · have hw : IntKind.i64.wrap (i - 1) = i - 1 := wi (by omega) (by omega)
    have hx : 0 ≤ i - 1 ∧ i - 1 < l.length := by omega
    have hn : (i - 1).toNat < l.length := by omega
    simp [h1, hw, addOff, h.1, h.2, hx, ints, hn, List.getElem?_eq_getElem]
    obtain ⟨x, hx⟩ : ∃ x, l[i.toNat - 1]? = some x := ⟨_, List.getElem?_eq_getElem (by omega)⟩
    simp [hx]
  · simp [h1]
theorem get_put_eq {H : Heap} {n : Nat} {b : Blk} (h : n < H.length) : (H.put n b).get n = b := by
  induction H generalizing n with
  | nil => simp at h
  | cons x H ih =>
    cases n with
    | zero => rfl
    | succ n => exact ih (by simpa using h)
theorem get_put_ne {H : Heap} {n m : Nat} {b : Blk} (h : m ≠ n) : (H.put n b).get m = H.get m := by
  induction H generalizing n m with
  | nil => cases n <;> rfl
  | cons x H ih =>
    cases n with
    | zero => cases m with
      | zero => exact absurd rfl h
      | succ m => rfl
    | succ n => cases m with
      | zero => rfl
      | succ m => exact ih (by omega)
theorem Set_t (h : Trk H bt bl l) (i n : Int) (hi : i ≤ 9223372036854775807) (hl : l.length ≤ 16) : Wf S 26 [.pointer (some ⟨bt, 0, none⟩), .int .i64 i, .int .i64 n] H fun v H' => v = .bool (decide ((1 ≤ i ∧ i ≤ l.length) ∧ 0 ≤ n ∧ n ≤ 400)) ∧ H' = if (1 ≤ i ∧ i ≤ l.length) ∧ 0 ≤ n ∧ n ≤ 400 then H.put bl (.cells (ints (l.set (i - 1).toNat n)) 3 true) else H := by
  refine w26 rfl rfl _ _ _ ?_
  simp [s26]
  refine (in_t h i).mono ?_
  rintro v H2 ⟨rfl, rfl⟩
  by_cases h1 : 1 ≤ i ∧ i ≤ l.length
  · by_cases h2 : n < 0
    · have h3 : ¬ 0 ≤ n := by omega
      simp [h1, h2, h3]
    · by_cases h3 : 400 < n
      · have h4 : ¬ n ≤ 400 := by omega
        simp [h1, h2, h3, h4]
      · have h4 : 0 ≤ n := by omega
        have h5 : n ≤ 400 := by omega
        have hw : IntKind.i64.wrap (i - 1) = i - 1 := wi (by omega) (by omega)
        have hx : 0 ≤ i - 1 ∧ i - 1 < l.length := by omega
        have hn : i.toNat - 1 < l.length := by omega
        simp [h1, h2, h3, h4, h5, hw, addOff, h.1, h.2, hx, ints, hn, kSt, oneC, List.map_set]
  · simp [h1]
def lagOf (l : List Int) (i total : Int) : Int := if 1 ≤ i ∧ i ≤ l.length then max (total - l.getD (i - 1).toNat 0) 0 else 0
def small (l : List Int) : Prop := ∀ x ∈ l, 0 ≤ x ∧ x ≤ 400
theorem small_at (hs : small l) (i : Nat) : 0 ≤ l.getD i 0 ∧ l.getD i 0 ≤ 400 := by
  rw [List.getD_eq_getElem?_getD]
  cases h : l[i]? with
  | none => simp
  | some x => exact hs x (List.mem_of_getElem? h)
theorem Lag_t (h : Trk H bt bl l) (hs : small l) (i t : Int) (hi : i ≤ 9223372036854775807) (ht : t ≤ 9223372036854775807) : Wf S 27 [.pointer (some ⟨bt, 0, none⟩), .int .i64 i, .int .i64 t] H fun v H' => H' = H ∧ v = .int .i64 (lagOf l i t) := by
  refine w27 rfl rfl _ _ _ ?_
  simp [s27]
  refine (in_t h i).mono ?_
  rintro v H2 ⟨rfl, rfl⟩
  have hx := small_at hs (i - 1).toNat
  by_cases h1 : 1 ≤ i ∧ i ≤ l.length
  · by_cases h2 : t < 0
    · simp [h1, h2, lagOf]
      simp at hx
      omega
    · simp [h1, h2]
      refine (Get_t h i hi).mono ?_
      rintro v H3 ⟨rfl, rfl⟩
      have hw : IntKind.i64.wrap (t - l.getD (i - 1).toNat 0) = t - l.getD (i - 1).toNat 0 := wi (by omega) (by omega)
      simp only [h1, and_self, if_true, kb_sub, oV_some, hw]
      simp [lagOf, h1]
  · simp [h1, lagOf]
def Row (H : Heap) (b : Nat) (l : List Int) : Prop := H.get b = .cells (ints l) 3 true
theorem RLag_t {bw : Nat} (h : Row H bw l) (hs : small l) (i t : Int) (hi : i ≤ 9223372036854775807) (ht : t ≤ 9223372036854775807) : Wf S 28 [.slice (some ⟨bw, 0, none⟩) l.length l.length, .int .i64 i, .int .i64 t] H fun v H' => H' = H ∧ v = .int .i64 (lagOf l i t) := by
  refine w28 rfl rfl _ _ _ ?_
  by_cases h1 : i < 1
  · have h2 : ¬ 1 ≤ i := by omega
    simp [s28, h1, lagOf, h2]
  by_cases h2 : l.length < i
  · have h3 : ¬ i ≤ l.length := by omega
    simp [s28, h1, h2, lagOf, h3]
  have h3 : 1 ≤ i ∧ i ≤ l.length := by omega
  have hw : IntKind.i64.wrap (i - 1) = i - 1 := wi (by omega) (by omega)
  have hx : 0 ≤ i - 1 ∧ i - 1 < l.length := by omega
  have hx1 : 1 ≤ i := by omega
  have hx2 : i - 1 < l.length := by omega
  obtain ⟨x, hg⟩ : ∃ x, l[i.toNat - 1]? = some x := ⟨_, List.getElem?_eq_getElem (by omega)⟩
  have hb := small_at hs (i - 1).toNat
  simp [hg] at hb
  have hr : H.get bw = .cells (ints l) 3 true := h
  by_cases h4 : t ≤ x
  · have h5 : max (t - x) 0 = 0 := by omega
    simp [s28, h1, h2, hw, hx, hx1, hx2, hr, ints, addOff, hg, h4, lagOf, h3, h5]
  · have h5 : max (t - x) 0 = t - x := by omega
    have hw2 : IntKind.i64.wrap (t - x) = t - x := wi (by omega) (by omega)
    simp [s28, h1, h2, hw, hx, hx1, hx2, hr, ints, addOff, hg, h4, lagOf, h3, h5, hw2]
def mnl (l : List Int) (i : Nat) : Int := (l.take i).foldl min (l.getD 0 0)
theorem mnl_s {l : List Int} {i : Nat} (h : i < l.length) : mnl l (i + 1) = min (mnl l i) (l.getD i 0) := by
  unfold mnl
  rw [List.take_add_one, List.foldl_append, List.getD_eq_getElem?_getD, List.getD_eq_getElem?_getD, List.getElem?_eq_getElem h]
  rfl
theorem Min_t {b : Nat} {c : Nat} (h : Row H b l) (h0 : 0 < l.length) (h16 : l.length ≤ 16) : Wf S 63 [.slice (some ⟨b, 0, none⟩) l.length c] H fun v H' => H' = H ∧ v = .int .i64 (mnl l l.length) := by
  refine w63 rfl rfl _ ?_
  have hr : H.get b = .cells (ints l) 3 true := h
  have h1 : ¬ (l.length : Int) < 1 := by omega
  obtain ⟨x, hx⟩ : ∃ x, l[0]? = some x := ⟨_, List.getElem?_eq_getElem (by omega)⟩
  have h2 : (0 : Int) < l.length := by omega
  simp [s63, h1, h2, addOff, hr, ints, hx]
  refine ⟨h0, l63_0 S (fun d e H' => ∃ i : Nat, 1 ≤ i ∧ i ≤ l.length ∧ d = l.length - i ∧ H' = H ∧ e 0 = .slice (some ⟨b, 0, none⟩) l.length c ∧ e 3 = .int .i64 (mnl l i) ∧ e 4 = .int .i64 i) (l.length - 1) ⟨1, by omega, by omega, rfl, rfl, ?_, ?_, ?_⟩ ?_⟩
  · simp
  · have : mnl l 1 = x := by rw [show (1 : Nat) = 0 + 1 from rfl, mnl_s h0]; simp [mnl, hx]
    simp [this]
  · simp
  · rintro d e H' ⟨i, hi1, hi2, rfl, rfl, e0, e3, e4⟩
    by_cases h3 : i < l.length
    · obtain ⟨y, hy⟩ : ∃ y, l[i]? = some y := ⟨_, List.getElem?_eq_getElem h3⟩
      have hw : IntKind.i64.wrap ((i : Int) + 1) = (i : Int) + 1 := wi (by omega) (by omega)
      have h4 : (i : Int) < l.length := by omega
      have hgi : l[i] = y := by rw [List.getElem?_eq_getElem h3] at hy; exact Option.some.inj hy
      simp [s63_0, e0, e3, e4, h3, addOff, hr, ints, hy, hw]
      refine ⟨l.length - (i + 1), by omega, i + 1, by omega, by omega, rfl, ?_, ?_⟩
      · have hg : l.getD i 0 = y := by rw [List.getD_eq_getElem?_getD, hy]; rfl
        rw [mnl_s h3, hg]; simp [hgi]
      · simp
    · have h5 : i = l.length := by omega
      subst h5
      simp [s63_0, e0, e3, e4]
def mxl (l : List Int) (i : Nat) : Int := (l.take i).foldl max (l.getD 0 0)
theorem mxl_s {l : List Int} {i : Nat} (h : i < l.length) : mxl l (i + 1) = max (mxl l i) (l.getD i 0) := by
  unfold mxl
  rw [List.take_add_one, List.foldl_append, List.getD_eq_getElem?_getD, List.getD_eq_getElem?_getD, List.getElem?_eq_getElem h]
  rfl
theorem Max_t {b : Nat} {c : Nat} (h : Row H b l) (h0 : 0 < l.length) (h16 : l.length ≤ 16) : Wf S 64 [.slice (some ⟨b, 0, none⟩) l.length c] H fun v H' => H' = H ∧ v = .int .i64 (mxl l l.length) := by
  refine w64 rfl rfl _ ?_
  have hr : H.get b = .cells (ints l) 3 true := h
  have h1 : ¬ (l.length : Int) < 1 := by omega
  obtain ⟨x, hx⟩ : ∃ x, l[0]? = some x := ⟨_, List.getElem?_eq_getElem (by omega)⟩
  have h2 : (0 : Int) < l.length := by omega
  simp [s64, h1, h2, addOff, hr, ints, hx]
  refine ⟨h0, l64_0 S (fun d e H' => ∃ i : Nat, 1 ≤ i ∧ i ≤ l.length ∧ d = l.length - i ∧ H' = H ∧ e 0 = .slice (some ⟨b, 0, none⟩) l.length c ∧ e 3 = .int .i64 (mxl l i) ∧ e 4 = .int .i64 i) (l.length - 1) ⟨1, by omega, by omega, rfl, rfl, ?_, ?_, ?_⟩ ?_⟩
  · simp
  · have : mxl l 1 = x := by rw [show (1 : Nat) = 0 + 1 from rfl, mxl_s h0]; simp [mxl, hx]
    simp [this]
  · simp
  · rintro d e H' ⟨i, hi1, hi2, rfl, rfl, e0, e3, e4⟩
    by_cases h3 : i < l.length
    · obtain ⟨y, hy⟩ : ∃ y, l[i]? = some y := ⟨_, List.getElem?_eq_getElem h3⟩
      have hw : IntKind.i64.wrap ((i : Int) + 1) = (i : Int) + 1 := wi (by omega) (by omega)
      have h4 : (i : Int) < l.length := by omega
      have hgi : l[i] = y := by rw [List.getElem?_eq_getElem h3] at hy; exact Option.some.inj hy
      simp [s64_0, e0, e3, e4, h3, addOff, hr, ints, hy, hw]
      refine ⟨l.length - (i + 1), by omega, i + 1, by omega, by omega, rfl, ?_, ?_⟩
      · have hg : l.getD i 0 = y := by rw [List.getD_eq_getElem?_getD, hy]; rfl
        rw [mxl_s h3, hg]; simp [hgi]
      · simp
    · have h5 : i = l.length := by omega
      subst h5
      simp [s64_0, e0, e3, e4]
theorem Least_t (h : Trk H bt bl l) (h0 : 0 < l.length) (h16 : l.length ≤ 16) : Wf S 31 [.pointer (some ⟨bt, 0, none⟩)] H fun v H' => H' = H ∧ v = .int .i64 (mnl l l.length) := by
  refine w31 rfl rfl _ ?_
  simp [s31]
  refine (Count_t h).mono ?_
  rintro v H2 ⟨rfl, rfl⟩
  have h1 : ¬ l.length = 0 := by omega
  have h2 : l ≠ [] := by intro e; simp [e] at h0
  simp [h1, h2, addOff, h.1]
  exact Min_t h.2 h0 h16
theorem Most_t (h : Trk H bt bl l) (h0 : 0 < l.length) (h16 : l.length ≤ 16) : Wf S 32 [.pointer (some ⟨bt, 0, none⟩)] H fun v H' => H' = H ∧ v = .int .i64 (mxl l l.length) := by
  refine w32 rfl rfl _ ?_
  simp [s32]
  refine (Count_t h).mono ?_
  rintro v H2 ⟨rfl, rfl⟩
  have h1 : ¬ l.length = 0 := by omega
  have h2 : l ≠ [] := by intro e; simp [e] at h0
  simp [h1, h2, addOff, h.1]
  exact Max_t h.2 h0 h16
theorem New_t (n : Int) : Wf S 25 [.int .i64 n] H fun v H' => v = .pointer (some ⟨H.next + 1, 0, none⟩) ∧ H' = (H.push (.cells (ints (List.replicate (min (max n 1) 16).toNat 0)) 3 true)).push (.cells [.slice (some ⟨H.next, 0, none⟩) (min (max n 1) 16).toNat (min (max n 1) 16).toNat] 98 true) := by
  refine w25 rfl rfl _ ?_
  have h1 : (0 : Int) ≤ min (max n 1) 16 := by omega
  have h2 : min (max n 1) 16 ≤ (9223372036854775807 : Int) := by omega
  have h3 : 8 * min (max n 1) 16 ≤ (281474976710656 : Int) := by omega
  simp [s25, kMks, h1, h2, h3, kFill, evPs, isTup, cellsL, wr, zeros, ints]
theorem isNaN_i (H : Heap) (a : Int) : Wf S 90 [.int .i64 a] H fun v H' => H' = H ∧ v = .bool false := by
  refine w90 rfl rfl _ ?_
  simp [s90]
def cmpI (a b : Int) : Int := if a < b then -1 else if b < a then 1 else 0
theorem Compare_i (H : Heap) (a b : Int) : Wf S 67 [.int .i64 a, .int .i64 b] H fun v H' => H' = H ∧ v = .int .i64 (cmpI a b) := by
  refine w67 rfl rfl _ _ ?_
  simp [s67]
  refine (isNaN_i H a).mono ?_
  rintro v H2 ⟨rfl, rfl⟩
  try simp
  refine (isNaN_i _ b).mono ?_
  rintro v H3 ⟨rfl, rfl⟩
  by_cases h1 : a < b
  · simp [h1, cmpI]
  · by_cases h2 : b < a
    · simp [h1, h2, cmpI]
    · simp [h1, h2, cmpI]
/-- the cells that the order reads: the tracker's and the total's -/
theorem Cmp_t {pt px : Nat} {t : Int} (h : Trk H bt bl l) (hs : small l) (ht : t ≤ 9223372036854775807) (h1 : H.get pt = .cells [.pointer (some ⟨bt, 0, none⟩)] 48 true) (h2 : H.get px = .cells [.int .i64 t] 3 true) (a b : Int) (ha : a ≤ 9223372036854775807) (hb : b ≤ 9223372036854775807) :
    Wf S 66 [.int .i64 a, .int .i64 b, .pointer (some ⟨pt, 0, none⟩), .pointer (some ⟨px, 0, none⟩)] H fun v H' => H' = H ∧ v = .int .i64 (cmpI (lagOf l b t) (lagOf l a t)) := by
  refine w66 rfl rfl _ _ _ _ ?_
  simp [s66, h1, h2]
  refine (Lag_t h hs b t hb ht).mono ?_
  rintro v H2 ⟨rfl, rfl⟩
  simp [ck, kop, Env.ev, kLd, h1, h2, veq, veq1]
  refine (Lag_t h hs a t ha ht).mono ?_
  rintro v H3 ⟨rfl, rfl⟩
  try simp
  refine (Compare_i _ _ _).mono ?_
  rintro v H4 ⟨rfl, rfl⟩
  simp
/-- a slice of these numbers -/
def SlI (H : Heap) (v : Value) (l : List Int) : Prop := ∃ a c, v = .slice a l.length c ∧ (0 < l.length → ∃ b, a = some ⟨b, 0, none⟩ ∧ Row H b l)
theorem same_t {v1 v2 : Value} (h1 : SlI H v1 l) (h2 : SlI H v2 l) (hm : l.length ≤ 1000) : Wf S 33 [v1, v2] H fun v H' => H' = H ∧ v = .bool true := by
  obtain ⟨a1, c1, rfl, h1⟩ := h1
  obtain ⟨a2, c2, rfl, h2⟩ := h2
  refine w33 rfl rfl _ _ ?_
  simp [s33]
  refine l33_0 S (fun d e H' => ∃ i : Nat, i ≤ l.length ∧ d = l.length - i ∧ H' = H ∧ e 0 = .slice a1 l.length c1 ∧ e 1 = .slice a2 l.length c2 ∧ e 12 = .int .i64 l.length ∧ e 13 = .int .i64 i) l.length ⟨0, by omega, by omega, rfl, ?_, ?_, ?_, ?_⟩ ?_
  · simp
  · simp
  · simp
  · simp
  · rintro d e H' ⟨i, hi2, rfl, rfl, e0, e1, e12, e13⟩
    by_cases h3 : i < l.length
    · obtain ⟨b1, rfl, hr1⟩ := h1 (by omega)
      obtain ⟨b2, rfl, hr2⟩ := h2 (by omega)
      have hr1 : H'.get b1 = .cells (ints l) 3 true := hr1
      have hr2 : H'.get b2 = .cells (ints l) 3 true := hr2
      obtain ⟨y, hy⟩ : ∃ y, l[i]? = some y := ⟨_, List.getElem?_eq_getElem h3⟩
      have hw : IntKind.i64.wrap ((i : Int) + 1) = (i : Int) + 1 := wi (by omega) (by omega)
      simp [s33_0, e0, e1, e12, e13, h3, addOff, hr1, hr2, ints, hy, hw]
      exact ⟨l.length - (i + 1), by omega, i + 1, by omega, rfl, by simp⟩
    · have h5 : i = l.length := by omega
      subst h5
      simp [s33_0, e12, e13]
def Keeps (H H' : Heap) : Prop := H.next ≤ H'.next ∧ ∀ n, n < H.next → H'.get n = H.get n
theorem Keeps.refl (H : Heap) : Keeps H H := ⟨Nat.le_refl _, fun _ _ => rfl⟩
theorem Keeps.trans {H1 H2 H3 : Heap} (a : Keeps H1 H2) (b : Keeps H2 H3) : Keeps H1 H3 := ⟨Nat.le_trans a.1 b.1, fun n h => (b.2 n (Nat.lt_of_lt_of_le h a.1)).trans (a.2 n h)⟩
theorem Keeps.push {H : Heap} {b : Blk} : Keeps H (H.push b) := ⟨by simp, fun n h => by simp [h]⟩
theorem next_put {n : Nat} {b : Blk} : (H.put n b).next = H.next := by
  unfold Heap.next
  induction H generalizing n with
  | nil => rfl
  | cons x H ih => cases n with
    | zero => rfl
    | succ n => simp only [Heap.put, List.length_cons, ih]
/-- what was gathered since H0 -/
def Acc (H0 H : Heap) (v : Value) (l : List Int) : Prop := (l = [] ∧ v = .slice none 0 0) ∨ ∃ b, H0.next ≤ b ∧ b < H.next ∧ v = .slice (some ⟨b, 0, none⟩) l.length capx ∧ Row H b l
theorem app_acc {H0 : Heap} {v : Value} {x : Int} (hA : Acc H0 H v l) (hk : Keeps H0 H) (hl : l.length ≤ 100000) : ∃ v' H', kApp (H.push (.cells [.int .i64 x] 3 true)) 3 1 8 v 1 [.int .i64 x] = some (v', H') ∧ Acc H0 H' v' (l ++ [x]) ∧ Keeps H0 H' := by
  rcases hA with ⟨rfl, rfl⟩ | ⟨b, hb0, hb, rfl, hr⟩
  · refine ⟨_, _, by simp [kApp, roomMax]; exact ⟨rfl, rfl⟩, ?_, ?_⟩
    · right
      exact ⟨H.next + 1, by have := hk.1; omega, by simp, by simp, by simp [Row, ints]⟩
    · exact hk.trans (Keeps.push.trans Keeps.push)
  · have hr' : H.get b = .cells (ints l) 3 true := hr
    have h1 : (l.length + 1) * 8 ≤ roomMax := by unfold roomMax; omega
    have h2 : l.length + 1 ≤ roomMax := by unfold roomMax; omega
    have h3 : rd (ints l) 0 l.length = some (ints l) := by
      have h6 : (ints l).length = l.length := by simp [ints]
      simp only [rd, h6, Nat.zero_add, Nat.le_refl, if_true, List.drop_zero]
      rw [List.take_of_length_le (by omega)]
    refine ⟨_, _, by simp [kApp, hb, hr', h1, h2, h3]; exact ⟨rfl, rfl⟩, ?_, ?_⟩
    · right
      refine ⟨H.next + 1, by have := hk.1; omega, by simp [next_put], by simp, ?_⟩
      simp [Row, ints, next_put]
    · refine ⟨by simp [next_put]; have := hk.1; omega, fun n hn => ?_⟩
      have h4 : n ≠ b := by omega
      have h5 : n < H.next := Nat.lt_of_lt_of_le hn hk.1
      simp [next_put, h5, Nat.lt_succ_of_lt h5, get_put_ne h4, hk.2 n hn]
def rowsAt (l : List Int) (t lag : Int) : Nat → List Int
  | 0 => []
  | k + 1 => rowsAt l t lag k ++ if lagOf l (k + 1) t = lag then [(k : Int) + 1] else []
theorem rowsAt_len (l : List Int) (t lag : Int) : ∀ k, (rowsAt l t lag k).length ≤ k
  | 0 => by simp [rowsAt]
  | k + 1 => by
    have := rowsAt_len l t lag k
    simp only [rowsAt, List.length_append]
    split <;> simp <;> omega
theorem inner_t {H0 H : Heap} {bw : Nat} {t lag : Int} {base : List Int} {e : Fe} {Q : Kx} (hw : Row H0 bw l) (hbw : bw < H0.next) (hs : small l) (h16 : l.length ≤ 16) (ht : t ≤ 9223372036854775807) (hb : base.length ≤ 10000)
    (hk : Keeps H0 H) (e0 : e 0 = .slice (some ⟨bw, 0, none⟩) l.length l.length) (e1 : e 1 = .int .i64 t) (e6 : e 6 = .int .i64 lag) (e7 : e 7 = .int .i64 1) (hA : Acc H0 H (e 5) base)
    (hQ : ∀ e' H', Keeps H0 H' → e' 0 = .slice (some ⟨bw, 0, none⟩) l.length l.length → e' 1 = .int .i64 t → e' 6 = .int .i64 lag → Acc H0 H' (e' 5) (base ++ rowsAt l t lag l.length) → Q (.exit 2) e' H') : WL S b35_1 e H Q := by
  refine l35_1 S (fun d e H => ∃ i : Nat, i ≤ l.length ∧ d = l.length - i ∧ Keeps H0 H ∧ e 0 = .slice (some ⟨bw, 0, none⟩) l.length l.length ∧ e 1 = .int .i64 t ∧ e 6 = .int .i64 lag ∧ e 7 = .int .i64 ((i : Int) + 1) ∧ Acc H0 H (e 5) (base ++ rowsAt l t lag i)) l.length ⟨0, by omega, by omega, hk, e0, e1, e6, e7, by simpa [rowsAt] using hA⟩ ?_
  rintro d e H ⟨i, hi, rfl, hk, e0, e1, e6, e7, hA⟩
  by_cases h3 : i < l.length
  · have hr : Row H bw l := (hk.2 bw hbw).trans hw
    have h4 : (i : Int) + 1 ≤ l.length := by omega
    have hlen : (base ++ rowsAt l t lag i).length ≤ 100000 := by
      have := rowsAt_len l t lag i
      simp only [List.length_append]; omega
    have hw1 : IntKind.i64.wrap ((i : Int) + 1 + 1) = (i : Int) + 1 + 1 := wi (by omega) (by omega)
    simp [s35_1, e0, e1, e6, e7, h4]
    refine (RLag_t hr hs _ t (by omega) ht).mono ?_
    rintro v H2 ⟨rfl, rfl⟩
    by_cases h5 : lagOf l ((i : Int) + 1) t = lag
    · obtain ⟨v', H', hap, hA', hk'⟩ := app_acc (x := (i : Int) + 1) hA hk hlen
      simp [h5, e6, e7, kFill, evPs, isTup, cellsL, wr, kRow, rd, hap, hw1]
      refine ⟨l.length - (i + 1), by omega, i + 1, by omega, rfl, hk', e0, e1, ?_⟩
      simpa [rowsAt, h5] using hA'
    · simp [h5, e6, e7, hw1]
      refine ⟨l.length - (i + 1), by omega, i + 1, by omega, rfl, hk, e0, e1, ?_⟩
      simpa [rowsAt, h5] using hA
  · have h5 : i = l.length := by omega
    subst h5
    have h6 : ¬ (l.length : Int) + 1 ≤ l.length := by omega
    simp [s35_1, e0, e7, h6]
    exact hQ _ _ hk (by simp [e0]) (by simp [e1]) (by simp [e6]) (by simpa using hA)
def gath (l : List Int) (t : Int) : Nat → List Int
  | 0 => []
  | m + 1 => gath l t m ++ rowsAt l t (400 - m) l.length
theorem gath_len (l : List Int) (t : Int) : ∀ m, (gath l t m).length ≤ m * l.length
  | 0 => by simp [gath]
  | m + 1 => by
    have h1 := gath_len l t m
    have h2 := rowsAt_len l t (400 - m) l.length
    simp only [gath, List.length_append, Nat.succ_mul]; omega
theorem RBehind_t {bw : Nat} {t : Int} (hw : Row H bw l) (hbw : bw < H.next) (hs : small l) (h16 : l.length ≤ 16) (ht : t ≤ 9223372036854775807) : Wf S 35 [.slice (some ⟨bw, 0, none⟩) l.length l.length, .int .i64 t] H fun v H' => Keeps H H' ∧ Acc H H' v (gath l t 400) := by
  refine w35 rfl rfl _ _ ?_
  simp [s35]
  refine l35_0 S (fun d e H' => ∃ m : Nat, m ≤ 400 ∧ d = 400 - m ∧ Keeps H H' ∧ e 0 = .slice (some ⟨bw, 0, none⟩) l.length l.length ∧ e 1 = .int .i64 t ∧ e 6 = .int .i64 (400 - m) ∧ Acc H H' (e 5) (gath l t m)) 400 ⟨0, by omega, by omega, Keeps.refl H, by simp, by simp, by simp, by left; simp [gath]⟩ ?_
  rintro d e H' ⟨m, hm, rfl, hk, e0, e1, e6, hA⟩
  by_cases h3 : m < 400
  · have h4 : (0 : Int) < 400 - m := by omega
    have hz : (m : Int) < 400 := by omega
    have hw1 : IntKind.i64.wrap ((400 : Int) - m - 1) = (400 : Int) - m - 1 := wi (by omega) (by omega)
    have hg : (gath l t m).length ≤ 10000 := by
      have h1 := gath_len l t m
      have h2 : m * l.length ≤ 400 * 16 := Nat.mul_le_mul (by omega) h16
      omega
    simp [s35_0, e6, h4, hz]
    refine inner_t (lag := 400 - m) hw hbw hs h16 ht hg hk ?_ ?_ ?_ ?_ ?_ ?_
    · simp [e0]
    · simp [e1]
    · simp [e6]
    · simp
    · simpa using hA
    intro e' H'' hk' e0' e1' e6' hA'
    simp [e6', hw1]
    refine ⟨400 - (m + 1), by omega, m + 1, by omega, rfl, hk', by simp [e0'], by simp [e1'], ?_, by simpa [gath] using hA'⟩
    simp; omega
  · have h5 : m = 400 := by omega
    subst h5
    simp [s35_0, e6]
    exact ⟨hk, hA⟩
def posAt (l : List Int) (t : Int) : Nat → List Int
  | 0 => []
  | k + 1 => posAt l t k ++ if 0 < lagOf l (k + 1) t then [(k : Int) + 1] else []
theorem sort_none (H : Heap) (f : Value) (x : Option Addr) (c : Nat) : Wf S 101 [.slice x 0 c, .int .i64 0, .int .i64 0, f] H fun v H' => H' = H := by
  refine w101 rfl rfl _ _ _ _ ?_
  have h1 : IntKind.i64.wrap 1 = 1 := by decide
  simp [s101, h1]
  refine u101_0 _ ?_
  simp [s101_0]
theorem sort_none' (H : Heap) (f : Value) (x : Option Addr) (c : Nat) : Wf S 89 [.slice x 0 c, .int .i64 0, f] H fun v H' => H' = H := by
  refine w89 rfl rfl _ _ _ ?_
  simp [s89]
  refine u89_1 _ ?_
  simp [s89_1]
  refine (sort_none H f x c).mono ?_
  rintro v H2 rfl
  refine u89_0 _ ?_
  simp [s89_0]
theorem posAt_len (l : List Int) (t : Int) : ∀ k, (posAt l t k).length ≤ k
  | 0 => by simp [posAt]
  | k + 1 => by
    have := posAt_len l t k
    simp only [posAt, List.length_append]
    split <;> simp <;> omega
/-- what the order and the tracker's functions read, since H0 -/
structure Env34 (H0 : Heap) (bt bl pt px : Nat) (l : List Int) (t : Int) : Prop where
  trk : Trk H0 bt bl l
  hbt : bt < H0.next
  hbl : bl < H0.next
  hpt : pt < H0.next
  hpx : px < H0.next
  p : H0.get pt = .cells [.pointer (some ⟨bt, 0, none⟩)] 48 true
  x : H0.get px = .cells [.int .i64 t] 3 true
theorem Env34.keep {H0 H : Heap} {bt bl pt px : Nat} {t : Int} (a : Env34 H0 bt bl pt px l t) (k : Keeps H0 H) : Env34 H bt bl pt px l t :=
  ⟨⟨(k.2 _ a.hbt).trans a.trk.1, (k.2 _ a.hbl).trans a.trk.2⟩, Nat.lt_of_lt_of_le a.hbt k.1, Nat.lt_of_lt_of_le a.hbl k.1, Nat.lt_of_lt_of_le a.hpt k.1, Nat.lt_of_lt_of_le a.hpx k.1, (k.2 _ a.hpt).trans a.p, (k.2 _ a.hpx).trans a.x⟩
theorem collect_t {H0 H : Heap} {bt bl pt px : Nat} {t : Int} {e : Fe} {Q : Kx} (hE : Env34 H0 bt bl pt px l t) (hs : small l) (h16 : l.length ≤ 16) (ht : t ≤ 9223372036854775807)
    (hk : Keeps H0 H) (e2 : e 2 = .pointer (some ⟨pt, 0, none⟩)) (e3 : e 3 = .pointer (some ⟨px, 0, none⟩)) (e5 : e 5 = .slice none 0 0) (e8 : e 8 = .int .i64 l.length) (e9 : e 9 = .int .i64 0)
    (hQ : ∀ e' H', Keeps H0 H' → e' 2 = .pointer (some ⟨pt, 0, none⟩) → e' 3 = .pointer (some ⟨px, 0, none⟩) → Acc H0 H' (e' 5) (posAt l t l.length) → Q (.exit 0) e' H') : WL S b34_0 e H Q := by
  refine l34_0 S (fun d e H => ∃ i : Nat, i ≤ l.length ∧ d = l.length - i ∧ Keeps H0 H ∧ e 2 = .pointer (some ⟨pt, 0, none⟩) ∧ e 3 = .pointer (some ⟨px, 0, none⟩) ∧ e 8 = .int .i64 l.length ∧ e 9 = .int .i64 i ∧ Acc H0 H (e 5) (posAt l t i)) l.length ⟨0, by omega, by omega, hk, e2, e3, e8, e9, by left; simp [posAt, e5]⟩ ?_
  rintro d e H ⟨i, hi, rfl, hk, e2, e3, e8, e9, hA⟩
  by_cases h3 : i < l.length
  · have hE' := hE.keep hk
    have h4 : (i : Int) < l.length := by omega
    have hlen : (posAt l t i).length ≤ 100000 := by
      have := posAt_len l t i
      omega
    have hw1 : IntKind.i64.wrap ((i : Int) + 1) = (i : Int) + 1 := wi (by omega) (by omega)
    simp [s34_0, e2, e3, e8, e9, h3, hE'.p, hE'.x, hw1]
    refine (Lag_t hE'.trk hs _ t (by omega) ht).mono ?_
    rintro v H2 ⟨rfl, rfl⟩
    by_cases h5 : 0 < lagOf l ((i : Int) + 1) t
    · obtain ⟨v', H', hap, hA', hk'⟩ := app_acc (x := (i : Int) + 1) hA hk hlen
      simp [h5, e2, e3, e8, e9, kFill, evPs, isTup, cellsL, wr, kRow, rd, hap, hw1]
      refine ⟨l.length - (i + 1), by omega, i + 1, by omega, rfl, hk', by omega, ?_⟩
      simpa [posAt, h5] using hA'
    · simp [h5, e2, e3, e8, e9, hw1]
      refine ⟨l.length - (i + 1), by omega, i + 1, by omega, rfl, hk, by omega, ?_⟩
      simpa [posAt, h5] using hA
  · have h5 : i = l.length := by omega
    subst h5
    simp [s34_0, e8, e9]
    exact hQ _ _ hk (by simp [e2]) (by simp [e3]) (by simpa using hA)
def sink (key : Int → Int) : List Int → Nat → List Int
  | d, 0 => d
  | d, j + 1 => if key (d.getD j 0) < key (d.getD (j + 1) 0) then sink key ((d.set (j + 1) (d.getD j 0)).set j (d.getD (j + 1) 0)) j else d
theorem cmpI_neg {a b : Int} : cmpI a b < 0 ↔ a < b := by
  unfold cmpI
  by_cases h : a < b
  · simp [h]
  · by_cases h2 : b < a
    · simp [h, h2]
    · simp [h, h2]
theorem Keeps.put {H0 H : Heap} {b : Nat} {x : Blk} (k : Keeps H0 H) (h : H0.next ≤ b) : Keeps H0 (H.put b x) :=
  ⟨by rw [next_put]; exact k.1, fun n hn => by rw [get_put_ne (by omega)]; exact k.2 n hn⟩
theorem sink_t {H0 H : Heap} {bt bl pt px b c j0 : Nat} {t : Int} {e : Fe} {Q : Kx} {dl : List Int} (hE : Env34 H0 bt bl pt px l t) (hs : small l) (ht : t ≤ 9223372036854775807) (hb0 : H0.next ≤ b)
    (hk : Keeps H0 H) (hb : b < H.next) (hr : Row H b dl) (hd : ∀ x ∈ dl, x ≤ 1000) (hj : j0 < dl.length) (hn : dl.length ≤ 1000)
    (e0 : e 0 = .slice (some ⟨b, 0, none⟩) dl.length c) (e1 : e 1 = .int .i64 0) (e3 : e 3 = .func (.func 66) #[] #[.pointer (some ⟨pt, 0, none⟩), .pointer (some ⟨px, 0, none⟩)]) (e9 : e 9 = .int .i64 j0)
    (hQ : ∀ e' H', Keeps H0 H' → b < H'.next → Row H' b (sink (fun i => lagOf l i t) dl j0) → e' 0 = e 0 → e' 1 = e 1 → e' 2 = e 2 → e' 3 = e 3 → e' 8 = e 8 → Q (.exit 2) e' H') : WL S b101_1 e H Q := by
  refine l101_1 S (fun d e' H => ∃ d2 : List Int, d2.length = dl.length ∧ Keeps H0 H ∧ b < H.next ∧ Row H b d2 ∧ (∀ x ∈ d2, x ≤ 1000) ∧ d < dl.length ∧ e' 0 = e 0 ∧ e' 1 = e 1 ∧ e' 2 = e 2 ∧ e' 3 = e 3 ∧ e' 8 = e 8 ∧ e' 9 = .int .i64 d ∧ sink (fun i => lagOf l i t) d2 d = sink (fun i => lagOf l i t) dl j0) j0 ⟨dl, rfl, hk, hb, hr, hd, hj, rfl, rfl, rfl, rfl, rfl, e9, rfl⟩ ?_
  rintro d e' H ⟨d2, hl2, hk, hb, hr, hd2, hdl, f0, f1, f2, f3, f8, f9, hsk⟩
  rw [e0] at f0
  rw [e1] at f1
  rw [e3] at f3
  have hE' := hE.keep hk
  have hr' : H.get b = .cells (ints d2) 3 true := hr
  cases d with
  | zero =>
    simp [s101_1, f1, f9]
    have hz : d2 = sink (fun i => lagOf l i t) dl j0 := by rw [← hsk]; simp [sink]
    exact hQ _ _ hk hb (hz ▸ hr) (by simp [f0, e0]) (by simp [f1, e1]) (by simp [f2]) (by simp [f3, e3]) (by simp [f8])
  | succ j =>
    obtain ⟨x, hx⟩ : ∃ x, d2[j + 1]? = some x := ⟨_, List.getElem?_eq_getElem (by omega)⟩
    obtain ⟨y, hy⟩ : ∃ y, d2[j]? = some y := ⟨_, List.getElem?_eq_getElem (by omega)⟩
    have hw1 : IntKind.i64.wrap ((j : Int) + 1 - 1) = (j : Int) := by rw [wi (by omega) (by omega)]; omega
    have hw2 : IntKind.i64.wrap (j : Int) = (j : Int) := wi (by omega) (by omega)
    have hx3 := hd2 x (List.mem_of_getElem? hx)
    have hy3 := hd2 y (List.mem_of_getElem? hy)
    have h5 : (0 : Int) < (j : Int) + 1 := by omega
    have h6 : (j : Int) < dl.length := by omega
    have h7 : (j : Int) + 1 < dl.length := by omega
    have h8 : (0 : Int) ≤ (j : Int) + 1 := by omega
    simp [s101_1, f0, f1, f3, f9, h5, h6, h7, h8, addOff, hr', ints, hx, hy, hw1, hw2]
    refine (Cmp_t hE'.trk hs ht hE'.p hE'.x x y (by omega) (by omega)).mono ?_
    rintro v H2 ⟨rfl, rfl⟩
    by_cases hc : lagOf l y t < lagOf l x t
    · have hc' := cmpI_neg.mpr hc
      have hgx : d2.getD (j + 1) 0 = x := by rw [List.getD_eq_getElem?_getD, hx]; rfl
      have hgy : d2.getD j 0 = y := by rw [List.getD_eq_getElem?_getD, hy]; rfl
      simp [hc', f0, f9, h5, h6, h7, h8, addOff, hr', ints, hx, hy, hw1, hw2, kSt, oneC, (by omega : j + 1 < d2.length), (by omega : j < d2.length), get_put_eq (show b < H2.length from hb)]
      have hjx : d2[j + 1] = x := by rw [List.getElem?_eq_getElem (by omega)] at hx; exact Option.some.inj hx
      have hjy : d2[j] = y := by rw [List.getElem?_eq_getElem (by omega)] at hy; exact Option.some.inj hy
      rw [hjx, hjy]
      refine ⟨j, by omega, (d2.set (j + 1) y).set j x, by simp [hl2], (hk.put hb0).put hb0, by simpa [next_put] using hb, ?_, ?_, by omega, ?_⟩
      · simp only [Row, ints, List.map_set]
        exact get_put_eq (by have h := next_put (H := H2) (n := b) (b := .cells ((List.map (Value.int IntKind.i64) d2).set (j + 1) (Value.int IntKind.i64 y)) 3 true); unfold Heap.next at h; rw [h]; exact hb)
      · intro z hz
        rcases List.mem_or_eq_of_mem_set hz with hz | rfl
        · rcases List.mem_or_eq_of_mem_set hz with hz | rfl
          · exact hd2 z hz
          · exact hy3
        · exact hx3
      · refine ⟨e0.symm, f1.trans e1.symm, f2, f3.trans e3.symm, f8, rfl, ?_⟩
        rw [← hsk]
        simp only [sink, hgx, hgy, hc, if_true]
    · have hc' : ¬ cmpI (lagOf l y t) (lagOf l x t) < 0 := fun h => hc (cmpI_neg.mp h)
      simp [hc']
      have hz : d2 = sink (fun i => lagOf l i t) dl j0 := by rw [← hsk]; simp [sink, hx, hy, hc]
      exact hQ _ _ hk hb (hz ▸ hr) (by simp [f0, e0]) (by simp [f1, e1]) (by simp [f2]) (by simp [f3, e3]) (by simp [f8])
def isTo (key : Int → Int) (d : List Int) : Nat → List Int
  | 0 => d
  | k + 1 => sink key (isTo key d k) (k + 1)
theorem sink_len (key : Int → Int) : ∀ j d, (sink key d j).length = d.length
  | 0, d => rfl
  | j + 1, d => by
    simp only [sink]
    split
    · rw [sink_len key j]; simp
    · rfl
theorem isTo_len (key : Int → Int) (d : List Int) : ∀ k, (isTo key d k).length = d.length
  | 0 => rfl
  | k + 1 => by simp only [isTo]; rw [sink_len, isTo_len key d k]
theorem sink_mem (key : Int → Int) {x : Int} : ∀ j d, j < d.length → x ∈ sink key d j → x ∈ d
  | 0, d => fun _ h => h
  | j + 1, d => fun hj h => by
    simp only [sink] at h
    split at h
    · have h1 := sink_mem key j _ (by simp; omega) h
      rcases List.mem_or_eq_of_mem_set h1 with h2 | rfl
      · rcases List.mem_or_eq_of_mem_set h2 with h3 | rfl
        · exact h3
        · rw [List.getD_eq_getElem?_getD, List.getElem?_eq_getElem (by omega)]; exact List.getElem_mem _
      · rw [List.getD_eq_getElem?_getD, List.getElem?_eq_getElem (by omega)]; exact List.getElem_mem _
    · exact h
theorem isTo_mem (key : Int → Int) (d : List Int) {x : Int} : ∀ k, k < d.length ∨ k = 0 → x ∈ isTo key d k → x ∈ d
  | 0 => fun _ h => h
  | k + 1 => fun hk h => isTo_mem key d k (by omega) (sink_mem key (k + 1) _ (by rw [isTo_len]; omega) h)
theorem isort_t {H0 H : Heap} {bt bl pt px b c : Nat} {t : Int} {dl : List Int} (hE : Env34 H0 bt bl pt px l t) (hs : small l) (ht : t ≤ 9223372036854775807) (hb0 : H0.next ≤ b)
    (hk : Keeps H0 H) (hb : b < H.next) (hr : Row H b dl) (hd : ∀ x ∈ dl, x ≤ 1000) (hn : dl.length ≤ 1000) (h1 : 0 < dl.length) :
    Wf S 101 [.slice (some ⟨b, 0, none⟩) dl.length c, .int .i64 0, .int .i64 dl.length, .func (.func 66) #[] #[.pointer (some ⟨pt, 0, none⟩), .pointer (some ⟨px, 0, none⟩)]] H fun _ H' => Keeps H0 H' ∧ b < H'.next ∧ Row H' b (isTo (fun i => lagOf l i t) dl (dl.length - 1)) := by
  refine w101 rfl rfl _ _ _ _ ?_
  have hw : IntKind.i64.wrap 1 = 1 := wi (by omega) (by omega)
  simp [s101, hw]
  refine l101_0 S (fun d e H => ∃ i : Nat, i < dl.length ∧ d = dl.length - i ∧ Keeps H0 H ∧ b < H.next ∧ Row H b (isTo (fun i => lagOf l i t) dl i) ∧ e 0 = .slice (some ⟨b, 0, none⟩) dl.length c ∧ e 1 = .int .i64 0 ∧ e 2 = .int .i64 dl.length ∧ e 3 = .func (.func 66) #[] #[.pointer (some ⟨pt, 0, none⟩), .pointer (some ⟨px, 0, none⟩)] ∧ e 8 = .int .i64 ((i : Int) + 1)) dl.length ⟨0, by omega, by omega, hk, hb, hr, by simp, by simp, by simp, by simp, by simp⟩ ?_
  rintro d e H ⟨i, hi, rfl, hk, hb, hr, e0, e1, e2, e3, e8⟩
  by_cases h3 : i + 1 < dl.length
  · have h4 : (i : Int) + 1 < dl.length := by omega
    have hw1 : IntKind.i64.wrap ((i : Int) + 1 + 1) = (i : Int) + 1 + 1 := wi (by omega) (by omega)
    have hl := isTo_len (fun i => lagOf l i t) dl i
    simp [s101_0, e2, e8, h4]
    refine sink_t (j0 := i + 1) (c := c) hE hs ht hb0 hk hb hr ?_ ?_ ?_ ?_ ?_ ?_ ?_ ?_
    · intro x hx; exact hd x (isTo_mem _ dl i (by omega) hx)
    · omega
    · omega
    · simp [e0, hl]
    · simp [e1]
    · simp [e3]
    · simp
    · intro e' H' hk' hb' hr' f0 f1 f2 f3 f8
      simp at f0 f1 f2 f3 f8
      simp [f8, e8, hw1]
      exact ⟨dl.length - (i + 1), by omega, i + 1, by omega, rfl, hk', hb', hr', by rw [f0, e0], by rw [f1, e1], by rw [f2, e2], by rw [f3, e3], by omega⟩
  · have h5 : ¬ (i : Int) + 1 < dl.length := by omega
    have h6 : i = dl.length - 1 := by omega
    simp [s101_0, e2, e8, h5]
    exact ⟨hk, hb, h6 ▸ hr⟩
theorem sort_t {H0 H : Heap} {bt bl pt px b c : Nat} {t : Int} {dl : List Int} (hE : Env34 H0 bt bl pt px l t) (hs : small l) (ht : t ≤ 9223372036854775807) (hb0 : H0.next ≤ b)
    (hk : Keeps H0 H) (hb : b < H.next) (hr : Row H b dl) (hd : ∀ x ∈ dl, x ≤ 1000) (hn : dl.length < 20) (h1 : 0 < dl.length) :
    Wf S 65 [.slice (some ⟨b, 0, none⟩) dl.length c, .func (.func 66) #[] #[.pointer (some ⟨pt, 0, none⟩), .pointer (some ⟨px, 0, none⟩)]] H fun _ H' => Keeps H0 H' ∧ b < H'.next ∧ Row H' b (isTo (fun i => lagOf l i t) dl (dl.length - 1)) := by
  refine w65 rfl rfl _ _ ?_
  simp [s65]
  refine w89 rfl rfl _ _ _ ?_
  have h2 : ¬ (20 : Int) ≤ dl.length := by omega
  have h3 : ¬ (20 : Int) < dl.length := by omega
  simp [s89]
  refine u89_1 _ ?_
  simp [s89_1, h2]
  refine (isort_t (c := c) hE hs ht hb0 hk hb hr hd (by omega) h1).mono ?_
  rintro v H2 ⟨a1, a2, a3⟩
  refine u89_0 _ ?_
  simp [s89_0, h3]
  exact ⟨a1, a2, a3⟩
theorem posAt_le (l : List Int) (t : Int) : ∀ k, ∀ x ∈ posAt l t k, x ≤ k
  | 0, x, h => by simp [posAt] at h
  | k + 1, x, h => by
    simp only [posAt, List.mem_append] at h
    rcases h with h | h
    · have := posAt_le l t k x h; omega
    · split at h
      · simp at h; omega
      · simp at h
def behind (l : List Int) (t : Int) : List Int := isTo (fun i => lagOf l i t) (posAt l t l.length) ((posAt l t l.length).length - 1)
theorem Behind_t {bt bl : Nat} {t : Int} (hT : Trk H bt bl l) (hbt : bt < H.next) (hbl : bl < H.next) (hs : small l) (h16 : l.length ≤ 16) (ht : t ≤ 9223372036854775807) : Wf S 34 [.pointer (some ⟨bt, 0, none⟩), .int .i64 t] H fun v H' => Keeps H H' ∧ SlI H' v (behind l t) := by
  refine w34 rfl rfl _ _ ?_
  simp [s34, isTup, cellsL]
  let H1 : Heap := (H.push (Blk.cells [Value.pointer (some ⟨bt, 0, none⟩)] 48 true)).push (Blk.cells [Value.int IntKind.i64 t] 3 true)
  have hk1 : Keeps H H1 := Keeps.push.trans Keeps.push
  have hE : Env34 H1 bt bl H.next (H.next + 1) l t :=
    ⟨⟨(hk1.2 _ hbt).trans hT.1, (hk1.2 _ hbl).trans hT.2⟩, Nat.lt_of_lt_of_le hbt hk1.1, Nat.lt_of_lt_of_le hbl hk1.1, by simp [H1]; omega, by simp [H1], by simp [H1], by simp [H1]⟩
  refine (Count_t (H := H1) hE.trk).mono ?_
  rintro v H2 ⟨rfl, rfl⟩
  refine collect_t hE hs h16 ht (Keeps.refl _) (by simp) (by simp) (by simp) (by simp) (by simp) ?_
  intro e' H' hk' e2 e3 hA
  simp [e2, e3]
  rcases hA with ⟨h0, hv⟩ | ⟨b, hb0, hb, hv, hr⟩
  · rw [hv]
    refine w65 rfl rfl _ _ ?_
    simp [s65]
    refine (sort_none' _ _ none 0).mono ?_
    rintro v H3 rfl
    refine ⟨hk1.trans hk', none, 0, ?_, ?_⟩
    · simp [behind, h0, isTo]
    · simp [behind, h0, isTo]
  · rw [hv]
    have hb2 : (behind l t).length = (posAt l t l.length).length := isTo_len _ _ _
    have hlen := posAt_len l t l.length
    by_cases h1 : (posAt l t l.length).length = 0
    · rw [h1]
      refine w65 rfl rfl _ _ ?_
      simp [s65]
      refine (sort_none' _ _ (some ⟨b, 0, none⟩) capx).mono ?_
      rintro v H3 rfl
      refine ⟨hk1.trans hk', some ⟨b, 0, none⟩, capx, by rw [hb2, h1], fun h => ?_⟩
      rw [hb2] at h; omega
    · refine (sort_t (c := capx) hE hs ht hb0 hk' hb hr (fun x hx => by have := posAt_le l t _ x hx; omega) (by omega) (by omega)).mono ?_
      rintro v H3 ⟨a1, a2, a3⟩
      exact ⟨hk1.trans a1, some ⟨b, 0, none⟩, capx, by rw [hb2], fun _ => ⟨b, rfl, a3⟩⟩

@[simp] theorem put_last {H : Heap} {x y : Blk} : (H.push x).put H.next y = H.push y := by
  unfold Heap.push Heap.next
  induction H with
  | nil => rfl
  | cons z H ih => simp [Heap.put, ih]
def prs (pl : List (Int × Int)) : List Value := pl.flatMap fun p => [.int .i64 p.1, .int .i64 p.2]
theorem prs_len (pl : List (Int × Int)) : (prs pl).length = 2 * pl.length := by
  induction pl with
  | nil => rfl
  | cons p pl ih => simp only [prs, List.flatMap_cons, List.length_append, List.length_cons, List.length_nil] at *; omega
theorem prs_at {pl : List (Int × Int)} {i : Nat} {p : Int × Int} (h : pl[i]? = some p) : rd (prs pl) (i * 2) 2 = some [.int .i64 p.1, .int .i64 p.2] := by
  induction pl generalizing i with
  | nil => simp at h
  | cons q pl ih =>
    cases i with
    | zero =>
      simp at h; subst h
      simp [rd, prs]
    | succ i =>
      have h1 := ih (i := i) (by simpa using h)
      have h2 := prs_len pl
      unfold rd at h1 ⊢
      split at h1
      · rename_i hle
        rw [if_pos (by rw [prs_len]; simp only [List.length_cons]; omega)]
        rw [← h1]
        have : (i + 1) * 2 = i * 2 + 2 := by omega
        rw [this]
        simp [prs]
      · cases h1
def ArgP (H : Heap) (kv : Value) (pl : List (Int × Int)) : Prop := (pl = [] ∧ kv = .slice none 0 0) ∨ ∃ b, kv = .slice (some ⟨b, 0, none⟩) pl.length capx ∧ H.get b = .cells (prs pl) 51 false ∧ b < H.next
theorem sks_pairs {n : Nat} {cs : List Value} (h : SKs [.int .i64, .int .i64] n cs) : ∃ pl : List (Int × Int), pl.length = n ∧ cs = prs pl ∧ ∀ p ∈ pl, (-9223372036854775808 ≤ p.1 ∧ p.1 ≤ 9223372036854775807) ∧ (-9223372036854775808 ≤ p.2 ∧ p.2 ≤ 9223372036854775807) := by
  induction n generalizing cs with
  | zero => exact ⟨[], rfl, by have := h.1; simp at this; simp [this, prs], by simp⟩
  | succ n ih =>
    have h0 := h.2 0 (by omega)
    simp at h0
    obtain ⟨x, xs, he, ⟨a, rfl, ha⟩, y, ys, rfl, ⟨b, rfl, hb⟩, rfl⟩ := h0
    have hl := h.1
    simp at hl
    match cs, hl with
    | u :: v :: cs, hl =>
      simp at he
      obtain ⟨rfl, rfl⟩ := he
      obtain ⟨pl, h1, h2, h3⟩ := ih (cs := cs) ⟨by simp at hl ⊢; omega, fun i hi => by
        have := h.2 (i + 1) (by omega)
        have e : (i + 1) * [SK.int IntKind.i64, SK.int IntKind.i64].length = i * [SK.int IntKind.i64, SK.int IntKind.i64].length + 2 := by simp; omega
        rw [e] at this
        simpa using this⟩
      refine ⟨(a, b) :: pl, by simp [h1], by simp [prs, h2], ?_⟩
      intro p hp
      rcases List.mem_cons.mp hp with rfl | hp
      · exact ⟨bounds_i64 ha, bounds_i64 hb⟩
      · exact h3 p hp
    | [], hl => simp at hl
    | [_], hl => simp at hl; omega

structure L1 (N : Nat) (H0 : Heap) (m : Nat) (w : List Int) (H : Heap) : Prop where
  sm : small w
  len : w.length = m
  trk : Trk H (N + 1) N w
  row : Row H (N + 2) w
  nx : N + 3 ≤ H.next
  old : ∀ n, n < N → H.get n = H0.get n
theorem L1.push {N m : Nat} {H0 H : Heap} {w : List Int} {b : Blk} (h : L1 N H0 m w H) : L1 N H0 m w (H.push b) := by
  have := h.nx
  refine ⟨h.sm, h.len, ⟨?_, ?_⟩, ?_, by simp; omega, fun n hn => ?_⟩
  · simpa [show N + 1 < H.next by omega] using h.trk.1
  · simpa [show N < H.next by omega] using h.trk.2
  · have := h.row
    unfold Row at *
    simpa [show N + 2 < H.next by omega] using this
  · have := h.old n hn
    simpa [show n < H.next by omega] using this
theorem first_t {N m : Nat} {H0 H : Heap} {w0 : List Int} {pl : List (Int × Int)} {a : Option Addr} {c : Nat} {total : Int} {e : Fe} {Q : Kx} (ht : total ≤ 9223372036854775807) (hm : m ≤ 16) (hpl : pl.length ≤ 60)
    (hb : ∀ p ∈ pl, (-9223372036854775808 ≤ p.1 ∧ p.1 ≤ 9223372036854775807) ∧ (-9223372036854775808 ≤ p.2 ∧ p.2 ≤ 9223372036854775807))
    (ha : 0 < pl.length → ∃ b, a = some ⟨b, 0, none⟩ ∧ H0.get b = .cells (prs pl) 51 false ∧ b < N) (hL : L1 N H0 m w0 H)
    (e2 : e 2 = .int .i64 total) (e7 : e 7 = .pointer (some ⟨N + 1, 0, none⟩)) (e8 : e 8 = .slice (some ⟨N + 2, 0, none⟩) m m) (e28 : e 28 = .slice a pl.length c) (e29 : e 29 = .int .i64 pl.length) (e30 : e 30 = .int .i64 0)
    (hQ : ∀ e' H' w, L1 N H0 m w H' → e' 2 = .int .i64 total → e' 7 = .pointer (some ⟨N + 1, 0, none⟩) → e' 8 = .slice (some ⟨N + 2, 0, none⟩) m m → Q (.exit 0) e' H') : WL S b6_1 e H Q := by
  refine l6_1 S (fun d e H => ∃ (i : Nat) (w : List Int), i ≤ pl.length ∧ d = pl.length - i ∧ L1 N H0 m w H ∧ e 2 = .int .i64 total ∧ e 7 = .pointer (some ⟨N + 1, 0, none⟩) ∧ e 8 = .slice (some ⟨N + 2, 0, none⟩) m m ∧ e 28 = .slice a pl.length c ∧ e 29 = .int .i64 pl.length ∧ e 30 = .int .i64 i) pl.length ⟨0, w0, by omega, by omega, hL, e2, e7, e8, e28, e29, e30⟩ ?_
  rintro d e H ⟨i, w, hi, rfl, hL, e2, e7, e8, e28, e29, e30⟩
  by_cases h3 : i < pl.length
  · obtain ⟨b, rfl, hg, hbN⟩ := ha (by omega)
    have hg' : H.get b = .cells (prs pl) 51 false := (hL.old b hbN).trans hg
    obtain ⟨p, hp⟩ : ∃ p, pl[i]? = some p := ⟨_, List.getElem?_eq_getElem h3⟩
    have hpb := hb p (List.mem_of_getElem? hp)
    have hrd := prs_at hp
    have h4 : (i : Int) < pl.length := by omega
    have hL' : L1 N H0 m w (H.push (.cells [.int .i64 p.1, .int .i64 p.2] 51 true)) := hL.push
    have hg2 : (H.push (.cells [.int .i64 p.1, .int .i64 p.2] 51 true)).get H.next = .cells [.int .i64 p.1, .int .i64 p.2] 51 true := by simp
    obtain ⟨H1, hH1⟩ : ∃ H1, H1 = H.push (.cells [.int .i64 p.1, .int .i64 p.2] 51 true) := ⟨_, rfl⟩
    rw [← hH1] at hL' hg2
    have hset := Set_t hL'.trk p.1 p.2 (by omega) (by rw [hL.len]; exact hm)
    rw [hL.len] at hset
    by_cases g : (1 ≤ p.1 ∧ p.1 ≤ m) ∧ 0 ≤ p.2 ∧ p.2 ≤ 400
    · obtain ⟨⟨g1, g2⟩, g3, g4⟩ := g
      simp [s6_1, e2, e7, e8, e28, e29, e30, h3, addOff, kLdn, hg', hrd, kStn, wr, g1, g2, g3, g4]
      rw [← hH1]
      refine hset.mono ?_
      rintro v H2 ⟨rfl, hH2⟩
      rw [if_pos ⟨⟨g1, g2⟩, g3, g4⟩] at hH2
      subst hH2
      have hw1 : IntKind.i64.wrap (p.1 - 1) = p.1 - 1 := wi (by omega) (by omega)
      have hn := hL'.nx
      have hr2 : H1.get (N + 2) = _ := hL'.row
      have hx1 : (p.1 - 1).toNat < w.length := by rw [hL.len]; omega
      have hN : N ≠ H.next := by have := hL.nx; omega
      have hN' : H.next ≠ N := by have := hL.nx; omega
      have hM : N + 2 ≠ H.next := by have := hL.nx; omega
      have hM' : H.next ≠ N + 2 := by have := hL.nx; omega
      have hb0 : N < H1.next := by omega
      have hb2 : N + 2 < H1.next := by omega
      have hL3 : L1 N H0 m (w.set (p.1 - 1).toNat p.2) ((H1.put N (.cells (ints (w.set (p.1 - 1).toNat p.2)) 3 true)).put (N + 2) (.cells (ints (w.set (p.1 - 1).toNat p.2)) 3 true)) := by
        refine ⟨?_, by simp [hL.len], ⟨?_, ?_⟩, ?_, by simp [next_put]; omega, fun n hn => ?_⟩
        · intro x hx
          rcases List.mem_or_eq_of_mem_set hx with hx | rfl
          · exact hL.sm x hx
          · exact ⟨g3, g4⟩
        · have := hL'.trk.1
          simpa [Heap.get_put] using this
        · simp [Heap.get_put, hb0]
        · simp [Row, Heap.get_put, next_put, hb2]
        · have h1 : n ≠ N := by omega
          have h2 : n ≠ N + 2 := by omega
          have := hL'.old n hn
          simpa [Heap.get_put, h1, h2] using this
      have hg3 : ((H1.put N (.cells (ints (w.set (p.1 - 1).toNat p.2)) 3 true)).put (N + 2) (.cells (ints (w.set (p.1 - 1).toNat p.2)) 3 true)).get H.next = .cells [.int .i64 p.1, .int .i64 p.2] 51 true := by
        simp [Heap.get_put, hN', hM', hg2]
      have hs2 : ints (w.set (p.1 - 1).toNat p.2) = (ints w).set (p.1.toNat - 1) (.int .i64 p.2) := by
        rw [show (p.1 - 1).toNat = p.1.toNat - 1 by omega]; simp [ints, List.map_set]
      have hx2 : p.1.toNat - 1 < (ints w).length := by simp [ints, hL.len]; omega
      have hc1 : 1 ≤ p.1 := g1
      have hc2 : p.1 - 1 < m := by omega
      simp [g1, g2, g3, g4, kEq, kEq1, hw1, addOff, e8, Heap.get_put, hr2, hN', hM', hg2, hc1, hc2]
      have hst : kSt (H1.put N (Blk.cells (ints (w.set (p.1.toNat - 1) p.2)) 3 true)) (.pointer (some ⟨N + 2, p.1.toNat - 1, none⟩)) (.int .i64 p.2) = some ((H1.put N (.cells (ints (w.set (p.1 - 1).toNat p.2)) 3 true)).put (N + 2) (.cells (ints (w.set (p.1 - 1).toNat p.2)) 3 true)) := by
        simp [kSt, Heap.get_put, hr2, oneC, hL.len, ints]
        omega
      rw [hst]
      have hlag := Lag_t hL3.trk hL3.sm p.1 total (by omega) ht
      have hrl := RLag_t hL3.row hL3.sm p.1 total (by omega) ht
      simp only [List.length_set, hL.len] at hrl
      generalize (H1.put N (.cells (ints (w.set (p.1 - 1).toNat p.2)) 3 true)).put (N + 2) (.cells (ints (w.set (p.1 - 1).toNat p.2)) 3 true) = H3 at hL3 hg3 hlag hrl
      simp [hg3, e7, e2]
      refine hlag.mono ?_
      rintro v H4 ⟨rfl, rfl⟩
      simp [ck, kop, Env.ev, kLd, hg3, veq, veq1]
      refine hrl.mono ?_
      rintro v H4 ⟨rfl, rfl⟩
      have hw2 : IntKind.i64.wrap ((i : Int) + 1) = (i : Int) + 1 := wi (by omega) (by omega)
      simp [e30, hw2]
      exact ⟨pl.length - (i + 1), by omega, i + 1, by omega, rfl, ⟨_, hL3⟩, e2, e7, e8, e28, e29, by omega⟩
    · have hset' := hset
      simp only [if_neg g, decide_eq_false g] at hset'
      have hlag := Lag_t hL'.trk hL'.sm p.1 total (by omega) ht
      have hrl := RLag_t hL'.row hL'.sm p.1 total (by omega) ht
      simp only [hL.len] at hrl
      have hw2 : IntKind.i64.wrap ((i : Int) + 1) = (i : Int) + 1 := wi (by omega) (by omega)
      have hcase : ¬ 1 ≤ p.1 ∨ (1 ≤ p.1 ∧ ¬ p.1 ≤ m) ∨ (1 ≤ p.1 ∧ p.1 ≤ m ∧ ¬ 0 ≤ p.2) ∨ (1 ≤ p.1 ∧ p.1 ≤ m ∧ 0 ≤ p.2 ∧ ¬ p.2 ≤ 400) := by omega
      rcases hcase with g1 | ⟨g1, g2⟩ | ⟨g1, g2, g3⟩ | ⟨g1, g2, g3, g4⟩
      · simp [s6_1, e2, e7, e8, e28, e29, e30, h3, addOff, kLdn, hg', hrd, kStn, wr, g1]
        rw [← hH1]
        refine hset'.mono ?_
        rintro v H2 ⟨rfl, rfl⟩
        simp [kEq, kEq1, addOff, hg2, e7, e2]
        refine hlag.mono ?_
        rintro v H4 ⟨rfl, rfl⟩
        simp [ck, kop, Env.ev, kLd, hg2, veq, veq1, e8, e2]
        refine hrl.mono ?_
        rintro v H4 ⟨rfl, rfl⟩
        simp [e30, hw2]
        exact ⟨pl.length - (i + 1), by omega, i + 1, by omega, rfl, ⟨_, hL'⟩, e2, e7, e8, e28, e29, by omega⟩
      · simp [s6_1, e2, e7, e8, e28, e29, e30, h3, addOff, kLdn, hg', hrd, kStn, wr, g1, g2]
        rw [← hH1]
        refine hset'.mono ?_
        rintro v H2 ⟨rfl, rfl⟩
        simp [kEq, kEq1, addOff, hg2, e7, e2]
        refine hlag.mono ?_
        rintro v H4 ⟨rfl, rfl⟩
        simp [ck, kop, Env.ev, kLd, hg2, veq, veq1, e8, e2]
        refine hrl.mono ?_
        rintro v H4 ⟨rfl, rfl⟩
        simp [e30, hw2]
        exact ⟨pl.length - (i + 1), by omega, i + 1, by omega, rfl, ⟨_, hL'⟩, e2, e7, e8, e28, e29, by omega⟩
      · simp [s6_1, e2, e7, e8, e28, e29, e30, h3, addOff, kLdn, hg', hrd, kStn, wr, g1, g2, g3]
        rw [← hH1]
        refine hset'.mono ?_
        rintro v H2 ⟨rfl, rfl⟩
        simp [kEq, kEq1, addOff, hg2, e7, e2]
        refine hlag.mono ?_
        rintro v H4 ⟨rfl, rfl⟩
        simp [ck, kop, Env.ev, kLd, hg2, veq, veq1, e8, e2]
        refine hrl.mono ?_
        rintro v H4 ⟨rfl, rfl⟩
        simp [e30, hw2]
        exact ⟨pl.length - (i + 1), by omega, i + 1, by omega, rfl, ⟨_, hL'⟩, e2, e7, e8, e28, e29, by omega⟩
      · simp [s6_1, e2, e7, e8, e28, e29, e30, h3, addOff, kLdn, hg', hrd, kStn, wr, g1, g2, g3, g4]
        rw [← hH1]
        refine hset'.mono ?_
        rintro v H2 ⟨rfl, rfl⟩
        simp [kEq, kEq1, addOff, hg2, e7, e2]
        refine hlag.mono ?_
        rintro v H4 ⟨rfl, rfl⟩
        simp [ck, kop, Env.ev, kLd, hg2, veq, veq1, e8, e2]
        refine hrl.mono ?_
        rintro v H4 ⟨rfl, rfl⟩
        simp [e30, hw2]
        exact ⟨pl.length - (i + 1), by omega, i + 1, by omega, rfl, ⟨_, hL'⟩, e2, e7, e8, e28, e29, by omega⟩
  · have h5 : i = pl.length := by omega
    subst h5
    simp [s6_1, e29, e30]
    exact hQ _ _ _ hL (by simp [e2]) (by simp [e7]) (by simp [e8])

section
variable (key : Int → Int)
def insR : List Int → Int → List Int
  | [], x => [x]
  | y :: ys, x => if key y < key x then y :: insR ys x else x :: y :: ys
def Lt (a b : Int) : Prop := key b < key a ∨ (key a = key b ∧ a < b)
theorem sink_ins : ∀ (rp : List Int) (x : Int) (post : List Int), sink key (rp.reverse ++ x :: post) rp.length = (insR key rp x).reverse ++ post
  | [], x, post => by simp [sink, insR]
  | y :: ys, x, post => by
    have hl : ys.reverse.length = ys.length := by simp
    have e1 : (y :: ys).reverse ++ x :: post = ys.reverse ++ y :: x :: post := by simp
    have g1 : (ys.reverse ++ y :: x :: post).getD ys.length 0 = y := by
      rw [List.getD_eq_getElem?_getD, List.getElem?_append_right (by omega), hl]; simp
    have g2 : (ys.reverse ++ y :: x :: post).getD (ys.length + 1) 0 = x := by
      rw [List.getD_eq_getElem?_getD, List.getElem?_append_right (by omega), hl]; simp
    have s1 : ((ys.reverse ++ y :: x :: post).set (ys.length + 1) y).set ys.length x = ys.reverse ++ x :: y :: post := by
      rw [List.set_append_right _ _ (by omega), List.set_append_right _ _ (by omega), hl]; simp
    rw [e1]
    simp only [List.length_cons, sink, g1, g2, insR, s1]
    split
    · rw [sink_ins ys x (y :: post)]; simp
    · simp
theorem isTo_ins (d : List Int) : ∀ k, k < d.length → isTo key d k = ((d.take (k + 1)).foldl (insR key) []).reverse ++ d.drop (k + 1)
  | 0, h => by
    cases d with
    | nil => simp at h
    | cons x d => simp [isTo, insR]
  | k + 1, h => by
    have ih := isTo_ins d k (by omega)
    have hd : d.drop (k + 1) = d[k + 1] :: d.drop (k + 2) := List.drop_eq_getElem_cons h
    have hlen : ∀ (l acc : List Int), (l.foldl (insR key) acc).length = acc.length + l.length := by
      have h1 : ∀ (a : List Int) (x : Int), (insR key a x).length = a.length + 1 := by
        intro a x
        induction a with
        | nil => rfl
        | cons y ys ih => simp only [insR]; split <;> simp [ih]
      intro l
      induction l with
      | nil => intro acc; simp
      | cons x l ih => intro acc; simp only [List.foldl_cons, ih, h1, List.length_cons]; omega
    simp only [isTo, ih, hd]
    have hk : k + 1 = ((d.take (k + 1)).foldl (insR key) []).length := by rw [hlen]; simp; omega
    have := sink_ins key ((d.take (k + 1)).foldl (insR key) []) d[k + 1] (d.drop (k + 2))
    rw [← hk] at this
    rw [this]
    congr 2
    rw [List.take_add_one (i := k + 1), List.getElem?_eq_getElem h, List.foldl_append]
    rfl
theorem insR_mem {z x : Int} : ∀ rp : List Int, z ∈ insR key rp x ↔ z = x ∨ z ∈ rp
  | [] => by simp [insR]
  | y :: ys => by
    simp only [insR]
    split
    · simp only [List.mem_cons, insR_mem ys]
      constructor
      · rintro (h | h | h) <;> simp [h]
      · rintro (h | h | h) <;> simp [h]
    · simp
theorem insR_pw {x : Int} : ∀ rp : List Int, rp.Pairwise (fun a b => Lt key b a) → (∀ y ∈ rp, y < x) → (insR key rp x).Pairwise (fun a b => Lt key b a)
  | [], _, _ => by simp [insR]
  | y :: ys, h, hx => by
    simp only [List.pairwise_cons] at h
    simp only [insR]
    split
    · rename_i hc
      simp only [List.pairwise_cons]
      refine ⟨fun z hz => ?_, insR_pw ys h.2 fun y hy => hx y (List.mem_cons_of_mem _ hy)⟩
      rcases (insR_mem key ys).mp hz with rfl | hz
      · exact Or.inl hc
      · exact h.1 z hz
    · rename_i hc
      simp only [List.pairwise_cons]
      have hyx : Lt key y x := by
        have := hx y (List.mem_cons_self ..)
        unfold Lt; omega
      refine ⟨fun z hz => ?_, h⟩
      rcases List.mem_cons.mp hz with rfl | hz
      · exact hyx
      · have h1 := h.1 z hz
        have h2 := hx z (List.mem_cons_of_mem _ hz)
        unfold Lt at *; omega
theorem fold_mem {z : Int} : ∀ (l acc : List Int), z ∈ l.foldl (insR key) acc ↔ z ∈ l ∨ z ∈ acc
  | [], acc => by simp
  | x :: l, acc => by
    simp only [List.foldl_cons, fold_mem l, insR_mem, List.mem_cons]
    constructor
    · rintro (h | h | h) <;> simp [h]
    · rintro ((h | h) | h) <;> simp [h]
theorem fold_pw : ∀ (l acc : List Int), l.Pairwise (· < ·) → (∀ a ∈ acc, ∀ b ∈ l, a < b) → acc.Pairwise (fun a b => Lt key b a) → (l.foldl (insR key) acc).Pairwise (fun a b => Lt key b a)
  | [], acc, _, _, h => h
  | x :: l, acc, hl, ha, h => by
    simp only [List.pairwise_cons] at hl
    simp only [List.foldl_cons]
    refine fold_pw l _ hl.2 ?_ (insR_pw key acc h fun y hy => ha y hy x (List.mem_cons_self ..))
    intro a hm b hb
    rcases (insR_mem key acc).mp hm with rfl | hm
    · exact hl.1 b hb
    · exact ha a hm b (List.mem_cons_of_mem _ hb)
theorem eq_of_pw : ∀ l1 l2 : List Int, l1.Pairwise (Lt key) → l2.Pairwise (Lt key) → (∀ x, x ∈ l1 ↔ x ∈ l2) → l1 = l2
  | [], [], _, _, _ => rfl
  | [], b :: l2, _, _, h => absurd ((h b).mpr (List.mem_cons_self ..)) (by simp)
  | a :: l1, [], _, _, h => absurd ((h a).mp (List.mem_cons_self ..)) (by simp)
  | a :: l1, b :: l2, h1, h2, h => by
    simp only [List.pairwise_cons] at h1 h2
    have hab : a = b := by
      have ha := (h a).mp (List.mem_cons_self ..)
      have hb := (h b).mpr (List.mem_cons_self ..)
      rcases List.mem_cons.mp ha with e | ha
      · exact e
      rcases List.mem_cons.mp hb with e | hb
      · exact e.symm
      have x1 := h1.1 b hb
      have x2 := h2.1 a ha
      unfold Lt at x1 x2; omega
    subst hab
    rw [eq_of_pw l1 l2 h1.2 h2.2 fun x => ?_]
    constructor
    · intro hx
      rcases List.mem_cons.mp ((h x).mp (List.mem_cons_of_mem _ hx)) with rfl | hx'
      · have := h1.1 x hx; unfold Lt at this; omega
      · exact hx'
    · intro hx
      rcases List.mem_cons.mp ((h x).mpr (List.mem_cons_of_mem _ hx)) with rfl | hx'
      · have := h2.1 x hx; unfold Lt at this; omega
      · exact hx'
theorem isTo_pw {d : List Int} (h : d.Pairwise (· < ·)) : (isTo key d (d.length - 1)).Pairwise (Lt key) ∧ ∀ z, z ∈ isTo key d (d.length - 1) ↔ z ∈ d := by
  cases hd : d with
  | nil => simp [isTo]
  | cons x d' =>
    have hl : d.length - 1 < d.length := by rw [hd]; simp
    have hk : d.length - 1 + 1 = d.length := by omega
    rw [← hd, isTo_ins key d _ hl, hk]
    simp only [List.take_length, List.drop_length, List.append_nil]
    refine ⟨?_, fun z => ?_⟩
    · rw [List.pairwise_reverse]
      exact fold_pw key d [] h (by simp) List.Pairwise.nil
    · rw [List.mem_reverse, fold_mem]; simp
end

theorem second_t {N m : Nat} {H0 H : Heap} {w : List Int} {total : Int} {e : Fe} {Q : Kx} (hm : m ≤ 16) (hm0 : 0 < m) (hL : L1 N H0 m w H)
    (e2 : e 2 = .int .i64 total) (e7 : e 7 = .pointer (some ⟨N + 1, 0, none⟩)) (e8 : e 8 = .slice (some ⟨N + 2, 0, none⟩) m m) (e88 : e 88 = .slice (some ⟨N + 2, 0, none⟩) m m) (e89 : e 89 = .int .i64 m) (e90 : e 90 = .int .i64 0)
    (e12 : e 12 = .int .i64 (w.getD 0 0)) (e13 : e 13 = .int .i64 (w.getD 0 0))
    (hQ : ∀ e', e' 2 = .int .i64 total → e' 7 = .pointer (some ⟨N + 1, 0, none⟩) → e' 8 = .slice (some ⟨N + 2, 0, none⟩) m m → e' 12 = .int .i64 (mnl w w.length) → e' 13 = .int .i64 (mxl w w.length) → Q (.exit 2) e' H) : WL S b6_0 e H Q := by
  refine l6_0 S (fun d e H' => ∃ (i : Nat), i ≤ m ∧ d = m - i ∧ H' = H ∧ e 2 = .int .i64 total ∧ e 7 = .pointer (some ⟨N + 1, 0, none⟩) ∧ e 8 = .slice (some ⟨N + 2, 0, none⟩) m m ∧ e 88 = .slice (some ⟨N + 2, 0, none⟩) m m ∧ e 89 = .int .i64 m ∧ e 90 = .int .i64 i ∧ e 12 = .int .i64 (mnl w i) ∧ e 13 = .int .i64 (mxl w i)) m ⟨0, by omega, by omega, rfl, e2, e7, e8, e88, e89, e90, by simpa [mnl] using e12, by simpa [mxl] using e13⟩ ?_
  rintro d e H' ⟨i, hi, rfl, rfl, e2, e7, e8, e88, e89, e90, e12, e13⟩
  by_cases h3 : i < m
  · have hr : H'.get (N + 2) = .cells (ints w) 3 true := hL.row
    have hlen := hL.len
    obtain ⟨x, hx⟩ : ∃ x, w[i]? = some x := ⟨_, List.getElem?_eq_getElem (by omega)⟩
    have hw : IntKind.i64.wrap ((i : Int) + 1) = (i : Int) + 1 := wi (by omega) (by omega)
    have hg : w.getD i 0 = x := by rw [List.getD_eq_getElem?_getD, hx]; rfl
    have hiw : i < w.length := by omega
    have hi2 : (i : Int) + 1 ≤ m := by omega
    have hi3 : i + 1 ≤ m := by omega
    have hi4 : (1 : Int) ≤ (i : Int) + 1 := by omega
    have hi5 : ¬ (i : Int) + 1 < 1 := by omega
    have hgi : w[i] = x := by rw [List.getElem?_eq_getElem hiw] at hx; exact Option.some.inj hx
    simp [s6_0, e2, e7, e8, e88, e89, e90, e12, e13, h3, addOff, hr, ints, hx, hw]
    refine (Get_t hL.trk _ (by omega)).mono ?_
    rintro v H2 ⟨rfl, rfl⟩
    simp [hlen, hx, hgi, hi2, hi3, hi4, hi5, h3, e88, e89, e90, hw]

    refine ⟨m - (i + 1), by omega, i + 1, by omega, rfl, e2, e7, e8, by simp, ?_, ?_⟩
    · rw [mnl_s hiw, hg]
    · rw [mxl_s hiw, hg]
  · have h5 : i = m := by omega
    subst h5
    simp [s6_0, e89, e90]
    exact hQ _ (by simp [e2]) (by simp [e7]) (by simp [e8]) (by simp [e12, hL.len]) (by simp [e13, hL.len])

theorem rowsAt_mem {l : List Int} {t lag x : Int} : ∀ k, x ∈ rowsAt l t lag k ↔ (1 ≤ x ∧ x ≤ k) ∧ lagOf l x t = lag
  | 0 => by simp [rowsAt]; omega
  | k + 1 => by
    simp only [rowsAt, List.mem_append, rowsAt_mem k]
    constructor
    · rintro (⟨h1, h2⟩ | h)
      · exact ⟨by omega, h2⟩
      · split at h
        · simp at h; subst h; exact ⟨by omega, by assumption⟩
        · simp at h
    · rintro ⟨h1, h2⟩
      by_cases hx : x = (k : Int) + 1
      · right; subst hx; rw [if_pos h2]; simp
      · left; exact ⟨by omega, h2⟩
theorem posAt_mem {l : List Int} {t x : Int} : ∀ k, x ∈ posAt l t k ↔ (1 ≤ x ∧ x ≤ k) ∧ 0 < lagOf l x t
  | 0 => by simp [posAt]; omega
  | k + 1 => by
    simp only [posAt, List.mem_append, posAt_mem k]
    constructor
    · rintro (⟨h1, h2⟩ | h)
      · exact ⟨by omega, h2⟩
      · split at h
        · simp at h; subst h; exact ⟨by omega, by assumption⟩
        · simp at h
    · rintro ⟨h1, h2⟩
      by_cases hx : x = (k : Int) + 1
      · right; subst hx; rw [if_pos h2]; simp
      · left; exact ⟨by omega, h2⟩
theorem rowsAt_pw (l : List Int) (t lag : Int) : ∀ k, (rowsAt l t lag k).Pairwise (· < ·)
  | 0 => by simp [rowsAt]
  | k + 1 => by
    simp only [rowsAt, List.pairwise_append]
    refine ⟨rowsAt_pw l t lag k, by split <;> simp, fun a ha b hb => ?_⟩
    have := (rowsAt_mem k).mp ha
    split at hb
    · simp at hb; omega
    · simp at hb
theorem posAt_pw (l : List Int) (t : Int) : ∀ k, (posAt l t k).Pairwise (· < ·)
  | 0 => by simp [posAt]
  | k + 1 => by
    simp only [posAt, List.pairwise_append]
    refine ⟨posAt_pw l t k, by split <;> simp, fun a ha b hb => ?_⟩
    have := (posAt_mem k).mp ha
    split at hb
    · simp at hb; omega
    · simp at hb
theorem gath_mem {l : List Int} {t x : Int} : ∀ m, x ∈ gath l t m ↔ ∃ j : Nat, j < m ∧ x ∈ rowsAt l t (400 - j) l.length
  | 0 => by simp [gath]
  | m + 1 => by
    simp only [gath, List.mem_append, gath_mem m]
    constructor
    · rintro (⟨j, h1, h2⟩ | h)
      · exact ⟨j, by omega, h2⟩
      · exact ⟨m, by omega, h⟩
    · rintro ⟨j, h1, h2⟩
      by_cases hj : j = m
      · right; subst hj; exact h2
      · left; exact ⟨j, by omega, h2⟩
theorem gath_pw (l : List Int) (t : Int) : ∀ m, (gath l t m).Pairwise (Lt (fun i => lagOf l i t))
  | 0 => by simp [gath]
  | m + 1 => by
    simp only [gath, List.pairwise_append]
    refine ⟨gath_pw l t m, (rowsAt_pw l t _ _).imp_of_mem ?_, fun a ha b hb => ?_⟩
    · intro a b ha hb hab
      have h1 := ((rowsAt_mem _).mp ha).2
      have h2 := ((rowsAt_mem _).mp hb).2
      exact Or.inr ⟨h1.trans h2.symm, hab⟩
    · obtain ⟨j, hj, ha⟩ := (gath_mem m).mp ha
      have h1 := ((rowsAt_mem _).mp ha).2
      have h2 := ((rowsAt_mem _).mp hb).2
      left; simp only [h1, h2]; omega
theorem behind_gath {l : List Int} {t : Int} (hs : small l) (ht : t ≤ 400) : behind l t = gath l t 400 := by
  have h1 := isTo_pw (fun i => lagOf l i t) (posAt_pw l t l.length)
  refine eq_of_pw (fun i => lagOf l i t) _ _ h1.1 (gath_pw l t 400) fun x => ?_
  rw [behind, h1.2, posAt_mem, gath_mem]
  constructor
  · rintro ⟨h2, h3⟩
    have h4 : lagOf l x t ≤ 400 := by
      unfold lagOf
      split
      · have := small_at hs (x - 1).toNat; omega
      · omega
    refine ⟨(400 - lagOf l x t).toNat, by omega, (rowsAt_mem _).mpr ⟨h2, by omega⟩⟩
  · rintro ⟨j, hj, h⟩
    obtain ⟨h2, h3⟩ := (rowsAt_mem _).mp h
    exact ⟨h2, by omega⟩
theorem aw (blk : Blk) : (evFn S 40 24 [] [blk]).map (fun p => (p.1, p.2.get 0)) = some (.bool true, blk) := by kernel_rfl
theorem aw' (blk : Blk) : Wf S 24 [] [blk] fun v H' => v = .bool true ∧ H'.get 0 = blk := by
  have h := aw blk
  cases hq : evFn S 40 24 [] [blk] with
  | none => rw [hq] at h; simp at h
  | some p => rw [hq] at h; exact ⟨40, p.1, p.2, hq, by simpa using h⟩
theorem lawTracks (n : Int) (kv : Value) (blk : Blk) (total : Int) (hn : (Lit.int .i64 n).wf = true) (hk : ArgSl [.int .i64, .int .i64] 51 0 kv blk) (ht0 : (Lit.int .i64 total).wf = true) :
    Wf S 6 [.int .i64 n, kv, .int .i64 total] [blk] fun v _ => v = .bool true := by
  have ht := bounds_i64 ht0
  obtain ⟨a, c, pl, rfl, hb, ha⟩ : ∃ a c, ∃ pl : List (Int × Int), kv = .slice a pl.length c ∧ (∀ p ∈ pl, (-9223372036854775808 ≤ p.1 ∧ p.1 ≤ 9223372036854775807) ∧ (-9223372036854775808 ≤ p.2 ∧ p.2 ≤ 9223372036854775807)) ∧ (0 < pl.length → a = some ⟨0, 0, none⟩ ∧ blk = .cells (prs pl) 51 false) := by
    rcases hk with rfl | ⟨m, cs, _, hs, rfl, rfl⟩
    · exact ⟨none, 0, [], rfl, by simp, by simp⟩
    · obtain ⟨pl, rfl, rfl, h⟩ := sks_pairs hs
      exact ⟨_, _, pl, rfl, h, fun _ => ⟨rfl, rfl⟩⟩
  refine w6 rfl rfl _ _ _ ?_
  simp [s6]
  refine (aw' blk).mono ?_
  rintro v H1 ⟨rfl, hblk⟩
  by_cases h60 : (60 : Int) < pl.length
  · simp [h60]
  simp [h60]
  refine (New_t n).mono ?_
  rintro v H2 ⟨rfl, rfl⟩
  have hm : (min (max n 1) 16).toNat ≤ 16 ∧ 0 < (min (max n 1) 16).toNat := by omega
  have hz : min (max n 1) 16 = ((min (max n 1) 16).toNat : Int) := by omega
  try simp
  rw [hz]
  generalize (min (max n 1) 16).toNat = m at hm hz
  have h3 : (m : Int) ≤ 281474976710656 := by omega
  have h4 : (m : Int) ≤ 9223372036854775807 := by omega
  have h5 : 8 * (m : Int) ≤ 281474976710656 := by omega
  have h6 : (0 : Int) ≤ m := by omega
  simp [kMks, h3, h4, h5, h6]
  have hlt : blk = .cells (prs pl) 51 false → 0 < H1.next := fun h => Heap.lt_of_live (b := 0) (by rw [hblk, h]; rfl)
  refine first_t (N := H1.next) (H0 := H1) (m := m) (w0 := List.replicate m 0) (pl := pl) (c := c) (a := a) (total := total) ht.2 hm.1 (by omega) hb ?_ ?_ ?_ ?_ ?_ ?_ ?_ ?_ ?_
  · intro hp
    obtain ⟨h1, h2⟩ := ha hp
    exact ⟨0, h1, by rw [hblk, h2], hlt h2⟩
  · refine ⟨?_, by simp, ⟨by simp, by simp [show H1.next < H1.next + 1 by omega, show H1.next < H1.next + 1 + 1 by omega]⟩, ?_, by simp, ?_⟩
    · intro x hx; have := (List.mem_replicate.mp hx).2; omega
    · simp [Row, zeros, ints]
    · intro k hk
      simp [hk, show k < H1.next + 1 by omega, show k < H1.next + 1 + 1 by omega]
  · simp
  · simp
  · simp
  · simp
  · simp
  · simp
  intro e' H' w hL e2 e7 e8
  have hlen := hL.len
  subst hlen
  obtain ⟨x, hx⟩ : ∃ x, w[0]? = some x := ⟨_, List.getElem?_eq_getElem (by omega)⟩
  have hr : H'.get (H1.next + 2) = .cells (ints w) 3 true := hL.row
  have hm0 : (0 : Int) < w.length := by omega
  have hx0 : w[0] = x := by rw [List.getElem?_eq_getElem (by omega)] at hx; exact Option.some.inj hx
  have hm0' : 0 < w.length := by omega
  simp [e2, e7, e8, addOff, hr, ints, hx, hm0, hm0']
  refine second_t (N := H1.next) (H0 := H1) (m := w.length) (total := total) hm.1 hm0' hL ?_ ?_ ?_ ?_ ?_ ?_ ?_ ?_ ?_
  · simp [e2]
  · simp [e7]
  · simp [e8]
  · simp
  · simp
  · simp
  · simp [hx, hx0]
  · simp [hx, hx0]
  intro e2 f2 f7 f8 f12 f13
  simp [f2, f7, f8, f12, f13]
  refine (Count_t hL.trk).mono ?_
  rintro v H2 ⟨rfl, rfl⟩
  simp [f7, f8]
  refine (Least_t hL.trk (by omega) (by omega)).mono ?_
  rintro v H2 ⟨rfl, rfl⟩
  simp [f12, f7]
  refine (Most_t hL.trk (by omega) (by omega)).mono ?_
  rintro v H2 ⟨rfl, rfl⟩
  simp [f13, f7, f8]
  have hnx := hL.nx
  refine (Behind_t (t := min total 400) hL.trk (by omega) (by omega) hL.sm (by omega) (by omega)).mono ?_
  rintro v H3 ⟨hk3, hsl⟩
  have hrw : Row H3 (H1.next + 2) w := (hk3.2 _ (by omega)).trans hL.row
  have hbe := RBehind_t (t := min total 400) hrw (by have := hk3.1; omega) hL.sm (by omega) (by omega)
  refine hbe.mono ?_
  rintro v' H4 ⟨hk4, hacc⟩
  have hs1 : SlI H4 v (behind w (min total 400)) := by
    obtain ⟨a1, c1, rfl, h1⟩ := hsl
    refine ⟨a1, c1, rfl, fun h => ?_⟩
    obtain ⟨b, rfl, hb⟩ := h1 h
    exact ⟨b, rfl, (hk4.2 b (Heap.lt_of_live (by rw [show H3.get b = _ from hb]; rfl))).trans hb⟩
  have hs2 : SlI H4 v' (behind w (min total 400)) := by
    rw [behind_gath hL.sm (by omega)]
    rcases hacc with ⟨h1, rfl⟩ | ⟨b, _, _, rfl, h1⟩
    · exact ⟨none, 0, by simp [h1], fun h => by simp [h1] at h⟩
    · exact ⟨_, _, rfl, fun _ => ⟨b, rfl, h1⟩⟩
  have hl : (behind w (min total 400)).length ≤ 1000 := by
    have h1 := posAt_len w (min total 400) w.length
    have h2 : (behind w (min total 400)).length = (posAt w (min total 400) w.length).length := isTo_len _ _ _
    omega
  refine (same_t hs1 hs2 hl).mono ?_
  rintro v2 H5 ⟨rfl, rfl⟩
  simp [f7]
  have htrk : Trk H5 (H1.next + 1) H1.next w := ⟨((hk4.2 _ (by have := hk3.1; omega)).trans (hk3.2 _ (by omega))).trans hL.trk.1, ((hk4.2 _ (by have := hk3.1; omega)).trans (hk3.2 _ (by omega))).trans hL.trk.2⟩
  refine (Get_t htrk 0 (by omega)).mono ?_
  rintro v2 H6 ⟨rfl, rfl⟩
  simp
end Go.Proofs.Ytccjanieihlpcaa.K
namespace Go.Proofs.Ytccjanieihlpcaa.policyTracks
open Go Go.Proofs Go.ChangeShapes Go.WideShapes Go.ChangeAt Go.RowKit
theorem own : ownKnob Try.prog.godebug = none := by kernel_rfl
theorem laid : laidOutB Try.prog = true := by kernel_rfl
set_option maxRecDepth 100000 in
theorem lifted (os : Os) (started : os.Started) (H : Type) (enc : TypeId × Value → H) :
    ReturnsInHanded {} Try.checked os 6 .any (Rows.policyTracksSpec.pre6 enc Try.prog Try.f6 Rows.policyTracksRow.domain false) (Rows.policyTracksSpec.post enc Try.prog Try.f6 false true false false) := by
  refine returnsInHanded_of_change (C := Try.checked) own started (by kernel_rfl) Try.func6
    (ChangeSpec.witness6 (enc := enc) (C := Try.checked) false ⟨#[], #[.int .i64 0, .slice none 0 0, .int .i64 0], []⟩ 8 (by kernel_rfl) (by kernel_rfl) (by kernel_rfl) (by kernel_rfl)) ?_
  intro W base args ds gs before hval0 hW hcnd _
  have hval : ∀ (j : Nat) t v, Try.f6.params[j]? = some t → args[j]? = some v → Value.okWide Try.prog W .any base t v := hval0
  have hW' := hW
  obtain ⟨p, q, hA0, hV, rfl, hfz, hnd⟩ := hW
  have hA : DataW.TrodAll enc Try.prog W 0 (fun _ => true) true Try.f6.params.toList args.toList ds p := hA0
  rw [Try.params6] at hA hval
  have hA1 := hA
  obtain ⟨v0, vs0, d0, ds0, p0, q0, hargs, rfl, rfl, h0, r0⟩ := trodAll_cons hA
  obtain ⟨v1, vs1, d1, ds1, p1, q1, rfl, rfl, rfl, h1, r1⟩ := trodAll_cons r0
  obtain ⟨v2, vs2, d2, ds2, p2, q2, rfl, rfl, rfl, h2, r2⟩ := trodAll_cons r1
  obtain ⟨rfl, rfl, rfl⟩ := trodAll_nil r2
  obtain rfl : args = #[v0, v1, v2] := by cases args; simp_all
  obtain ⟨rfl, rfl⟩ := trodVars_none hV
  have HR0 := K.HRel.nil (P := Try.prog) W
  have hn0 : ∀ b : Nat, (K.Heap.get [] b).own = false := fun b => rfl
  obtain ⟨a0, rfl, _, _, w0⟩ := open_int Try.underlying3 (hval 0 3 v0 rfl rfl) h0
  obtain ⟨a1, b1, ρ1, p1x, x1, HR1, hn1, w1⟩ := K.arg_slice (e := 51) (d := 6) (ks := [.int .i64, .int .i64]) Try.underlying47 (by kernel_rfl) (by kernel_rfl) (by decide) (hval 1 47 v1 rfl rfl) h1 HR0 hn0
  obtain ⟨a2, rfl, _, _, w2⟩ := open_int Try.underlying3 (hval 2 3 v2 rfl rfl) h2
  clear hA0 hval0
  refine (K.calls_of K.S_ok (K.lawTracks a0 a1 b1 a2 w0 w1 w2) HR1 (K.VL.cons (K.VRel.int .i64 a0) (K.VL.cons x1 (K.VL.cons (K.VRel.int .i64 a2) K.VL.nil)))).mono fun e W' ⟨he, hb⟩ => ?_
  subst he
  exact ⟨_, rfl, K.post_of_below (pa := _) (pv := []) hW' (fun _ _ _ => (trodAll_cons_mk (shut_bool Try.underlying4 _) trodAll_mk0)) (fun sp hsp => K.trodAll_stays laid hb hA1 (by
      intro t ht
      replace ht : t ∈ ([3, 47, 3] : List TypeId) := ht
      simp only [List.mem_cons, List.not_mem_nil, or_false] at ht
      rcases ht with rfl | rfl | rfl <;> exact ⟨by kernel_rfl, of_decide_eq_true (by kernel_rfl)⟩) (fun x hx => hW'.lt x (by simpa using hx)) (fun x hx => hsp x (by simpa using hx))) (fun _ _ => rfl) rfl
    hb (ok_one (by kernel_rfl) rfl (okWide_bool_mk Try.underlying4 _))⟩
theorem over : Rows.policyTracksRow.holds Try.pinned (OpenSpec.ofChange Rows.policyTracksSpec) :=
  OpenClaim.holds_of_wide 6 Try.f6 rfl rfl rfl rfl rfl rfl rfl ⟨rfl, rfl, rfl, rfl, rfl⟩ rfl rfl rfl rfl rfl (by kernel_rfl) Try.func6 (by kernel_rfl)
    (of_decide_eq_true (by kernel_rfl)) (by unfold Func.isWrapper; first | (rw [if_pos (by decide +kernel)]; kernel_rfl) | (rw [if_neg (by decide +kernel)]; exact ⟨rfl, rfl⟩))
    (fun os started H enc _ => lifted os started H enc)
theorem proved : Rows.PolicyTracksSaid :=
  over
end Go.Proofs.Ytccjanieihlpcaa.policyTracks
