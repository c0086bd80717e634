/- Acts as bytes: whether one may be, its bytes, by the program and by the document. -/
import Derived.Test.YtlboioplemlneaaPCurD
set_option maxRecDepth 100000
set_option maxHeartbeats 2000000
set_option linter.unusedVariables false
set_option linter.unusedSimpArgs false
namespace Go.Proofs.Ytlboioplemlneaa.K
open Go Go.Proofs
structure Ac where
  kind : Int
  node : Int
  n : Int
  up : Bool
  data : Bytes
def Ac.cells (a : Ac) : List Value := [.int .i64 a.kind, .int .i64 a.node, .int .i64 a.n, .bool a.up, .string (ofL a.data)]
theorem Ac.len (a : Ac) : a.cells.length = 5 := rfl
def Ac.fits (a : Ac) : Bool := decide (0 ≤ a.kind) && (decide (a.kind ≤ 9) && (decide (0 ≤ a.node) && (decide (a.node ≤ 255) && (decide (0 ≤ a.n) && (decide (a.n ≤ 1073741824) && decide ((a.data.length : Int) ≤ 600))))))
theorem Ac.fits_iff (a : Ac) : a.fits = true ↔ (0 ≤ a.kind ∧ a.kind ≤ 9) ∧ (0 ≤ a.node ∧ a.node ≤ 255) ∧ (0 ≤ a.n ∧ a.n ≤ 1073741824) ∧ a.data.length ≤ 600 := by
  unfold Ac.fits
  simp only [Bool.and_eq_true, decide_eq_true_eq]
  omega
theorem Fits_t {H : Heap} (a : Ac) : Wf S 14 [.agg a.cells.toArray] H fun v H' => Kp H.next H H' ∧ v = .bool a.fits := by
  refine w14 rfl rfl _ ?_
  have hk : Kp H.next H (H.push (.cells [.int .i64 a.kind, .int .i64 a.node, .int .i64 a.n, .bool a.up, .string (ofL a.data)] 25 true)) := Kp.push (Nat.le_refl _)
  by_cases h0 : 0 ≤ a.kind
  case neg => simp [s14, isTup, cellsL, Ac.cells, addOff, h0, Ac.fits]; exact hk
  by_cases h1 : a.kind ≤ 9
  case neg => simp [s14, isTup, cellsL, Ac.cells, addOff, h0, h1, Ac.fits]; exact hk
  by_cases h2 : 0 ≤ a.node
  case neg => simp [s14, isTup, cellsL, Ac.cells, addOff, h0, h1, h2, Ac.fits]; exact hk
  by_cases h3 : a.node ≤ 255
  case neg => simp [s14, isTup, cellsL, Ac.cells, addOff, h0, h1, h2, h3, Ac.fits]; exact hk
  by_cases h4 : 0 ≤ a.n
  case neg => simp [s14, isTup, cellsL, Ac.cells, addOff, h0, h1, h2, h3, h4, Ac.fits]; exact hk
  by_cases h5 : a.n ≤ 1073741824
  case neg => simp [s14, isTup, cellsL, Ac.cells, addOff, h0, h1, h2, h3, h4, h5, Ac.fits]; exact hk
  simp [s14, isTup, cellsL, Ac.cells, addOff, h0, h1, h2, h3, h4, h5, Ac.fits, ofL_size]; exact hk
theorem rFits_t {H : Heap} (a : Ac) : Wf S 15 [.agg a.cells.toArray] H fun v H' => Kp H.next H H' ∧ v = .bool a.fits := by
  refine w15 rfl rfl _ ?_
  have hk : Kp H.next H (H.push (.cells [.int .i64 a.kind, .int .i64 a.node, .int .i64 a.n, .bool a.up, .string (ofL a.data)] 25 true)) := Kp.push (Nat.le_refl _)
  by_cases h0 : 0 ≤ a.kind
  case neg => simp [s15, isTup, cellsL, Ac.cells, addOff, h0, Ac.fits]; exact hk
  by_cases h1 : a.kind ≤ 9
  case neg => simp [s15, isTup, cellsL, Ac.cells, addOff, h0, h1, Ac.fits]; exact hk
  by_cases h2 : 0 ≤ a.node
  case neg => simp [s15, isTup, cellsL, Ac.cells, addOff, h0, h1, h2, Ac.fits]; exact hk
  by_cases h3 : a.node ≤ 255
  case neg => simp [s15, isTup, cellsL, Ac.cells, addOff, h0, h1, h2, h3, Ac.fits]; exact hk
  by_cases h4 : 0 ≤ a.n
  case neg => simp [s15, isTup, cellsL, Ac.cells, addOff, h0, h1, h2, h3, h4, Ac.fits]; exact hk
  by_cases h5 : a.n ≤ 1073741824
  case neg => simp [s15, isTup, cellsL, Ac.cells, addOff, h0, h1, h2, h3, h4, h5, Ac.fits]; exact hk
  simp [s15, isTup, cellsL, Ac.cells, addOff, h0, h1, h2, h3, h4, h5, Ac.fits, ofL_size]; exact hk
/-- an act's bytes -/
def Ac.head (a : Ac) : Nat := a.kind.toNat + if a.up then 16 else 0
def actB (a : Ac) : Bytes := [UInt8.ofNat a.head, UInt8.ofNat a.node.toNat] ++ grp a.n.toNat ++ txt a.data
theorem two_text {H : Heap} {K : Kv} {x y : Nat} (hx : x < 256) (hy : y < 256) : run S (.b2s 5 (.c (.slice (some ⟨H.next, 0, none⟩) 2 2))) [] (H.push (.cells [.int .u8 x, .int .u8 y] 5 true)) K = K (.string (ofL [UInt8.ofNat x, UInt8.ofNat y])) (H.push (.cells [.int .u8 x, .int .u8 y] 5 true)) := by
  have hn : (UInt8.ofNat x).toNat = x := by simp; omega
  have hn2 : (UInt8.ofNat y).toNat = y := by simp; omega
  have : kRow (H.push (.cells [.int .u8 x, .int .u8 y] 5 true)) 5 1 [UInt8.ofNat x, UInt8.ofNat y].length (some ⟨H.next, 0, none⟩) = some (bvs [UInt8.ofNat x, UInt8.ofNat y]) := by
    simp [kRow, rd, bvs, bv, hn, hn2]
  exact s_b2s this
theorem rBytes_t {H : Heap} (a : Ac) (ha : a.fits = true) : Wf S 16 [.agg a.cells.toArray] H fun v H' => Kp H.next H H' ∧ v = .string (ofL (actB a)) := by
  rw [Ac.fits_iff] at ha
  obtain ⟨⟨k1, k2⟩, ⟨n1, n2⟩, ⟨m1, m2⟩, hd⟩ := ha
  refine w16 rfl rfl _ ?_
  obtain ⟨nn, hnn⟩ : ∃ nn : Nat, a.n = (nn : Int) := ⟨a.n.toNat, by omega⟩
  obtain ⟨nd, hnd⟩ : ∃ nd : Nat, a.node = (nd : Int) := ⟨a.node.toNat, by omega⟩
  obtain ⟨kd, hkd⟩ : ∃ kd : Nat, a.kind = (kd : Int) := ⟨a.kind.toNat, by omega⟩
  have hB : actB a = [UInt8.ofNat (kd + if a.up then 16 else 0), UInt8.ofNat nd] ++ grp nn ++ txt a.data := by
    unfold actB Ac.head; rw [hnn, hnd, hkd]; simp
  have hgl := grp_len10 (v := nn) (by omega)
  have hgl2 := grp_len10 (v := a.data.length) (by omega)
  have htx : (txt a.data).length ≤ 610 := by unfold txt; simp; omega
  have w1 : IntKind.u8.wrap (kd : Int) = kd := wu8' (by omega) (by omega)
  have w2 : IntKind.i64.wrap ((kd : Int) + 16) = ((kd + 16 : Nat) : Int) := by rw [wi (by omega) (by omega)]; omega
  have w3 : IntKind.u8.wrap ((kd + 16 : Nat) : Int) = ((kd + 16 : Nat) : Int) := wu8' (by omega) (by omega)
  have w4 : IntKind.u8.wrap (nd : Int) = nd := wu8' (by omega) (by omega)
  have w5 : IntKind.u64.wrap (nn : Int) = nn := wu64 (by omega) (by omega)
  have hk : ∀ (q : Nat) u, Kp H.next H (H.push (.cells [.int .i64 (q : Int), .int .i64 (nd : Int), .int .i64 (nn : Int), .bool u, .string (ofL a.data)] 25 true)) := fun q u => Kp.push (Nat.le_refl _)
  have hgg : ∀ (q : Nat) u, (H.push (.cells [.int .i64 (q : Int), .int .i64 (nd : Int), .int .i64 (nn : Int), .bool u, .string (ofL a.data)] 25 true)).get H.next = .cells [.int .i64 (q : Int), .int .i64 (nd : Int), .int .i64 (nn : Int), .bool u, .string (ofL a.data)] 25 true := fun q u => get_last
  have hnx : ∀ (q : Nat) u, (H.push (.cells [.int .i64 (q : Int), .int .i64 (nd : Int), .int .i64 (nn : Int), .bool u, .string (ofL a.data)] 25 true)).next = H.next + 1 := fun q u => next_push
  cases hu : a.up with
  | true =>
    obtain ⟨x, hx⟩ : ∃ x, x = kd + 16 := ⟨_, rfl⟩
    rw [← hx] at w2 w3
    rw [hu, if_pos rfl, ← hx] at hB
    rw [hB]
    have hk := hk kd true
    have hgg := hgg kd true
    have hnx := hnx kd true
    simp only [s16, Ac.cells, hkd, hnd, hnn, hu]
    rw [run_box, if_neg (by simp [isTup])]
    simp only [cellsL]
    generalize H.push (.cells [.int .i64 (kd : Int), .int .i64 (nd : Int), .int .i64 (nn : Int), .bool true, .string (ofL a.data)] 25 true) = H1 at *
    have ho := fun K => two_text (H := H1) (K := K) (x := x) (y := nd) (by omega) (by omega)
    rw [hnx] at ho
    have ha1 := s_add (l := [UInt8.ofNat x, UInt8.ofNat nd]) (m := grp nn) (by simp; omega)
    have ha2 := s_add (l := [UInt8.ofNat x, UInt8.ofNat nd] ++ grp nn) (m := txt a.data) (by simp; omega)
    simp only [List.cons_append, List.nil_append] at ha1 ha2 ⊢
    simp [addOff, hgg, w1, w2, w3, w4, w5, gndV, gnd1]
    refine (rGroup_t nn (by omega)).mono ?_
    rintro v H2 ⟨_, rfl⟩
    simp [gndV, gnd1, hgg, addOff]
    refine (rText_t a.data (by omega)).mono ?_
    rintro v H3 ⟨_, rfl⟩
    simp [gndV, gnd1, kFill, evPs, isTup, cellsL, wr, ck, kop, addOff, hnx, hgg, veq, veq1, ho, ha1, ha2]
    exact hk.trans (Kp.push (by omega))
  | false =>
    obtain ⟨x, hx⟩ : ∃ x, x = kd := ⟨_, rfl⟩
    rw [← hx] at w1
    rw [hu, if_neg (by simp), Nat.add_zero, ← hx] at hB
    rw [← hx] at hkd
    rw [hB]
    have hk := hk x false
    have hgg := hgg x false
    have hnx := hnx x false
    simp only [s16, Ac.cells, hkd, hnd, hnn, hu]
    rw [run_box, if_neg (by simp [isTup])]
    simp only [cellsL]
    generalize H.push (.cells [.int .i64 (x : Int), .int .i64 (nd : Int), .int .i64 (nn : Int), .bool false, .string (ofL a.data)] 25 true) = H1 at *
    have ho := fun K => two_text (H := H1) (K := K) (x := x) (y := nd) (by omega) (by omega)
    rw [hnx] at ho
    have ha1 := s_add (l := [UInt8.ofNat x, UInt8.ofNat nd]) (m := grp nn) (by simp; omega)
    have ha2 := s_add (l := [UInt8.ofNat x, UInt8.ofNat nd] ++ grp nn) (m := txt a.data) (by simp; omega)
    simp only [List.cons_append, List.nil_append] at ha1 ha2 ⊢
    simp [addOff, hgg, w1, w2, w3, w4, w5, gndV, gnd1]
    refine (rGroup_t nn (by omega)).mono ?_
    rintro v H2 ⟨_, rfl⟩
    simp [gndV, gnd1, hgg, addOff]
    refine (rText_t a.data (by omega)).mono ?_
    rintro v H3 ⟨_, rfl⟩
    simp [gndV, gnd1, kFill, evPs, isTup, cellsL, wr, ck, kop, addOff, hnx, hgg, veq, veq1, ho, ha1, ha2]
    exact hk.trans (Kp.push (by omega))
end Go.Proofs.Ytlboioplemlneaa.K
