/- The act that comes next, as the program reads it. -/
import Derived.Test.YtlboioplemlneaaPScrB
set_option maxRecDepth 100000
set_option maxHeartbeats 4000000
set_option linter.unusedVariables false
set_option linter.unusedSimpArgs false
namespace Go.Proofs.Ytlboioplemlneaa.K
open Go Go.Proofs
/-- what the program reads, step by step -/
def o1 (l : Bytes) (bad : Bool) : Nat := ((rawOut l bad 1).headD 0).toNat
theorem o1_lt (l : Bytes) (bad : Bool) : o1 l bad < 256 := UInt8.toNat_lt _
def oL1 (l : Bytes) : Bytes := rawL l false 1
def oB1 (l : Bytes) : Bool := rawB l false 1
def oL2 (l : Bytes) : Bytes := rawL (oL1 l) (oB1 l) 1
def oB2 (l : Bytes) : Bool := rawB (oL1 l) (oB1 l) 1
def oN (l : Bytes) : Option (Nat × Bytes) := intOut (oL2 l) (oB2 l) 1073741824
def oTx (l : Bytes) : Option (Bytes × Bytes) := txtOut (grL (oN l)) (oN l).isNone 600
def oA (l : Bytes) : Ac := ⟨(o1 l false % 16 : Nat), (o1 (oL1 l) (oB1 l) : Nat), (gvN (oN l) : Nat), decide (o1 l false &&& 16 ≠ 0), txS (oTx l)⟩
def oOk (l : Bytes) : Bool := !(oTx l).isNone && (decide (o1 l false ≤ 31) && (oA l).fits)
theorem and16 : ∀ k : Fin 32, (k.val &&& 16 ≠ 0) ↔ 16 ≤ k.val := by decide
theorem one_pA (l : Bytes) : pA l = if oOk l = true then some (oA l, txL (oTx l)) else none := by
  match l with
  | [] =>
    have h1 : oTx [] = none := by simp [oTx, oN, oL2, oB2, oL1, oB1, rawL, rawB, intOut, grpOut, txtOut]
    simp [pA, oOk, h1]
  | [x] =>
    have h1 : oTx [x] = none := by simp [oTx, oN, oL2, oB2, oL1, oB1, rawL, rawB, intOut, grpOut, txtOut]
    simp [pA, oOk, h1]
  | k :: nd :: t =>
    have hk := k.toNat_lt
    have e1 : o1 (k :: nd :: t) false = k.toNat := by simp [o1, rawOut]
    have e2 : oL1 (k :: nd :: t) = nd :: t := by simp [oL1, rawL]
    have e3 : oB1 (k :: nd :: t) = false := by simp [oB1, rawB]
    have e4 : o1 (nd :: t) false = nd.toNat := by simp [o1, rawOut]
    have e5 : oL2 (k :: nd :: t) = t := by simp [oL2, e2, e3, rawL]
    have e6 : oB2 (k :: nd :: t) = false := by simp [oB2, e2, e3, rawB]
    have hN : oN (k :: nd :: t) = (pG 0 t).bind fun p => if p.1 ≤ 1073741824 then some p else none := by simp [oN, e5, e6, intOut, grpOut]
    cases hp : pG 0 t with
    | none =>
      rw [hp] at hN
      have h1 : oTx (k :: nd :: t) = none := by simp [oTx, hN, intOut, grpOut, txtOut]
      simp [pA, hp, oOk, h1]
    | some p =>
      rw [hp] at hN
      simp only [Option.bind_some] at hN
      by_cases hn : p.1 ≤ 1073741824
      · rw [if_pos hn] at hN
        have hT : oTx (k :: nd :: t) = ((pG 0 p.2).bind fun q => if q.1 ≤ 600 then some q else none).bind fun q => if q.1 ≤ q.2.length then some (q.2.take q.1, q.2.drop q.1) else none := by
          simp [oTx, hN, grL, txtOut, intOut, grpOut]
        have hn' : ¬ 1073741824 < p.1 := by omega
        cases hp2 : pG 0 p.2 with
        | none =>
          rw [hp2] at hT
          have h1 : oTx (k :: nd :: t) = none := by simpa using hT
          simp [pA, hp, hn', hp2, oOk, h1]
        | some q =>
          rw [hp2] at hT
          simp only [Option.bind_some] at hT
          by_cases hm : 600 < q.1 ∨ q.2.length < q.1
          · have h1 : oTx (k :: nd :: t) = none := by
              rw [hT]
              by_cases hm1 : q.1 ≤ 600
              · rw [if_pos hm1]; simp; omega
              · rw [if_neg hm1]; rfl
            simp [pA, hp, hn', hp2, hm, oOk, h1]
          · rw [if_pos (by omega)] at hT
            simp only [Option.bind_some] at hT
            rw [if_pos (by omega)] at hT
            have hA : oA (k :: nd :: t) = ⟨(k.toNat % 16 : Nat), (nd.toNat : Nat), (p.1 : Nat), decide (k.toNat &&& 16 ≠ 0), q.2.take q.1⟩ := by
              unfold oA; rw [e1, e2, e3, e4, hN, hT]; simp [gvN, txS]
            by_cases hk32 : 32 ≤ k.toNat
            · have : ¬ k.toNat ≤ 31 := by omega
              simp [pA, hk32, oOk, e1, this]
            · have hk31 : k.toNat ≤ 31 := by omega
              have hup := and16 ⟨k.toNat, by omega⟩
              simp only at hup
              have hup' : decide (k.toNat &&& 16 ≠ 0) = decide (16 ≤ k.toNat) := by congr 1; exact propext hup
              rw [hup'] at hA
              have hnd := nd.toNat_lt
              by_cases hk9 : 9 < k.toNat % 16
              · have hf : (oA (k :: nd :: t)).fits = false := by
                  rw [← Bool.not_eq_true, Ac.fits_iff, hA]; simp; omega
                simp [pA, hk32, hp, hn', hp2, hm, hk9, oOk, hT, e1, hk31, hf]
              · have hf : (oA (k :: nd :: t)).fits = true := by
                  rw [Ac.fits_iff, hA]; simp; omega
                simp only [pA]
                rw [if_neg hk32, hp]
                simp only [Option.bind_some]
                rw [if_neg hn', hp2]
                simp only [Option.bind_some]
                rw [if_neg hm, if_neg hk9]
                rw [hA] at hf
                simp only [oOk, hT, e1, hk31, hA, hf, Option.isNone_some, Bool.not_false, decide_true, Bool.and_self, if_true, txL]
      · rw [if_neg hn] at hN
        have h1 : oTx (k :: nd :: t) = none := by simp [oTx, hN, intOut, grpOut, txtOut]
        have hn' : 1073741824 < p.1 := by omega
        simp [pA, hp, hn', oOk, h1]
theorem one_t {H : Heap} {b : Nat} {l : Bytes} (h : Rd H b l false) : Wf S 56 [.pointer (some ⟨b, 0, none⟩)] H fun v H' => v = .tuple #[.agg (oA l).cells.toArray, .bool (oOk l)] ∧ Rd H' b (txL (oTx l)) (oTx l).isNone ∧ H.next ≤ H'.next ∧ ∀ k, k < H.next → k ≠ b → H'.get k = H.get k := by
  have hlt := h.lt
  refine w56 rfl rfl _ ?_
  obtain ⟨H1, hH1⟩ : ∃ H1, H1 = H.push (.cells AZ.cells 25 true) := ⟨_, rfl⟩
  have bsz : (.string (bs []) : Value) = .string ⟨#[]⟩ := rfl
  have hag : ∀ (c : List Value) , True := fun _ => trivial
  have g1 : H1.get H.next = .cells AZ.cells 25 true := by rw [hH1]; exact get_last
  have n1 : H1.next = H.next + 1 := by rw [hH1]; exact next_push
  have k1 : Kp H.next H H1 := by rw [hH1]; exact Kp.push (Nat.le_refl _)
  have r1 : Rd H1 b l false := (k1.2 b hlt).trans h
  simp only [s56, bsz]
  rw [run_alloc]
  simp only [← AZ_cells, ← hH1]
  simp
  refine (Fixed1_t r1).mono ?_
  rintro v H2 ⟨rfl, r2, n2, k2⟩
  have b1 := o1_lt l false
  have e1 : ((rawOut l false 1).headD 0).toNat = o1 l false := rfl
  rw [e1]
  obtain ⟨kk, hkk⟩ : ∃ kk, kk = o1 l false := ⟨_, rfl⟩
  rw [← hkk] at b1 ⊢
  have w1 : IntKind.i64.wrap (kk : Int) = kk := wi (by omega) (by omega)
  obtain ⟨kd, hkd⟩ : ∃ kd, kd = kk % 16 := ⟨_, rfl⟩
  obtain ⟨ku, hku⟩ : ∃ ku, ku = kk &&& 16 := ⟨_, rfl⟩
  have oa : kBin .and (.int .i64 (kk : Int)) (.int .i64 15) = some (.int .i64 (kd : Int)) := by
    have h := kb_andN (k := .i64) (a := kk) (b := 15) (by show kk < 2 ^ 64; omega) (by decide)
    have e : kk &&& 15 = kd := by rw [hkd]; exact and_low kk 4
    rw [e, wi (by omega) (by omega)] at h
    exact h
  have hkub : ku ≤ 255 := by rw [hku]; exact Nat.le_trans Nat.and_le_left (by omega)
  have ob : kBin .and (.int .i64 (kk : Int)) (.int .i64 16) = some (.int .i64 (ku : Int)) := by
    have h := kb_andN (k := .i64) (a := kk) (b := 16) (by show kk < 2 ^ 64; omega) (by decide)
    rw [← hku, wi (by omega) (by omega)] at h
    exact h
  simp [w1, oa, ob]
  refine (Fixed1_t r2).mono ?_
  rintro v H3 ⟨rfl, r3, n3, k3⟩
  have b2 := o1_lt (oL1 l) (oB1 l)
  have e2 : ((rawOut (rawL l false 1) (rawB l false 1) 1).headD 0).toNat = o1 (oL1 l) (oB1 l) := rfl
  rw [e2]
  obtain ⟨nn, hnn⟩ : ∃ nn, nn = o1 (oL1 l) (oB1 l) := ⟨_, rfl⟩
  rw [← hnn] at b2 ⊢
  have w2 : IntKind.i64.wrap (nn : Int) = nn := wi (by omega) (by omega)
  simp [w2]
  have r3' : Rd H3 b (oL2 l) (oB2 l) := r3
  refine (Int_t r3' 1073741824 (by omega)).mono ?_
  rintro v H4 ⟨rfl, rfl⟩
  have e3 : intOut (oL2 l) (oB2 l) 1073741824 = oN l := rfl
  rw [e3]
  have hlt3 : b < H3.next := r3.lt
  have r4 : Rd (H3.put b (RdB (grL (oN l)) (oN l).isNone)) b (grL (oN l)) (oN l).isNone := rd_put hlt3
  have n4 : (H3.put b (RdB (grL (oN l)) (oN l).isNone)).next = H3.next := next_put
  have k4 : ∀ k, k ≠ b → (H3.put b (RdB (grL (oN l)) (oN l).isNone)).get k = H3.get k := fun k hk => get_put_ne hk
  generalize H3.put b (RdB (grL (oN l)) (oN l).isNone) = H4 at *
  try simp
  refine (Text_t r4 600 (by omega)).mono ?_
  rintro v H5 ⟨rfl, rfl⟩
  have e4 : txtOut (grL (oN l)) (oN l).isNone 600 = oTx l := rfl
  rw [e4]
  have hlt4 : b < H4.next := r4.lt
  have r5 : Rd (H4.put b (RdB (txL (oTx l)) (oTx l).isNone)) b (txL (oTx l)) (oTx l).isNone := rd_put hlt4
  have n5 : (H4.put b (RdB (txL (oTx l)) (oTx l).isNone)).next = H4.next := next_put
  have k5 : ∀ k, k ≠ b → (H4.put b (RdB (txL (oTx l)) (oTx l).isNone)).get k = H4.get k := fun k hk => get_put_ne hk
  generalize H4.put b (RdB (txL (oTx l)) (oTx l).isNone) = H5 at *
  have hA : (oA l).cells = [.int .i64 (kd : Int), .int .i64 (nn : Int), .int .i64 (gvN (oN l) : Int), .bool (decide (ku ≠ 0)), .string (ofL (txS (oTx l)))] := by
    unfold oA Ac.cells; rw [← hkk, ← hnn, hkd, hku]
  obtain ⟨A, hAA⟩ : ∃ A, A = oA l := ⟨_, rfl⟩
  rw [← hAA] at hA ⊢
  have hagA : (Value.agg #[.int .i64 (kd : Int), .int .i64 (nn : Int), .int .i64 (gvN (oN l) : Int), .bool (decide (ku ≠ 0)), .string (ofL (txS (oTx l)))]) = .agg A.cells.toArray := by rw [hA]
  -- the act's own block
  have hst : kStn (H5.push (.cells AZ.cells 25 true)) 5 (.pointer (some ⟨H5.next, 0, none⟩)) (.agg A.cells.toArray) = some (H5.push (.cells A.cells 25 true)) := by
    have := get_last (H := H5) (b := .cells AZ.cells 25 true)
    simp [kStn, this, AZ_cells, hA, wr]
  obtain ⟨H6, hH6⟩ : ∃ H6, H6 = H5.push (.cells A.cells 25 true) := ⟨_, rfl⟩
  rw [← hH6] at hst
  have g6 : H6.get H5.next = .cells A.cells 25 true := by rw [hH6]; exact get_last
  have n6 : H6.next = H5.next + 1 := by rw [hH6]; exact next_push
  have k6 : Kp H5.next H5 H6 := by rw [hH6]; exact Kp.push (Nat.le_refl _)
  have r6 : Rd H6 b (txL (oTx l)) (oTx l).isNone := (k6.2 b r5.lt).trans r5
  have hld : ∀ H', H'.get H5.next = .cells A.cells 25 true → kLdn H' 5 (.pointer (some ⟨H5.next, 0, none⟩)) = some (.agg A.cells.toArray) := fun H' h => by simp [kLdn, h, rd, hA]
  simp only [ne_eq, decide_not] at hagA
  rw [AZ_cells] at hst
  have hld6 := hld H6 g6
  simp [AZ_cells, kFill, evPs, isTup, cellsL, wr, hagA, hst, hld6]
  refine (Bad_t r6).mono ?_
  rintro v H7 ⟨rfl, rfl⟩
  have hck : kop (.ldn 5 (.c (.pointer (some ⟨H5.next, 0, none⟩)))) [] H7 = some (.agg A.cells.toArray, H7) := by
    show (kLdn H7 5 (.pointer (some ⟨H5.next, 0, none⟩))).map (·, H7) = _
    rw [hld6]; rfl
  have hve : veq (.agg A.cells.toArray) (.agg A.cells.toArray) = true := by simp [veq, hA, veqL, veq1]
  have g27 : H7.get H.next = .cells AZ.cells 25 true := by
    rw [k6.2 _ (by omega), k5 _ (by omega), k4 _ (by omega), k3 _ (by omega) (by omega), k2 _ (by omega) (by omega)]
    exact g1
  have keep : ∀ k, k < H.next → k ≠ b → H7.get k = H.get k := fun k h1 h2 => by
    rw [k6.2 _ (by omega), k5 _ h2, k4 _ h2, k3 _ (by omega) h2, k2 _ (by omega) h2]
    exact k1.2 k h1
  -- what is handed back
  have out : ∀ (H8 : Heap), Kp H7.next H7 H8 → ∃ H9, kStn H8 5 (.pointer (some ⟨H.next, 0, none⟩)) (.agg A.cells.toArray) = some H9 ∧ kLdn H9 5 (.pointer (some ⟨H.next, 0, none⟩)) = some (.agg A.cells.toArray) ∧ Rd H9 b (txL (oTx l)) (oTx l).isNone ∧ H.next ≤ H9.next ∧ ∀ k, k < H.next → k ≠ b → H9.get k = H.get k := by
    intro H8 hk8
    have g28 := (hk8.2 H.next (by omega)).trans g27
    have hn8 := hk8.1
    refine ⟨H8.put H.next (.cells A.cells 25 true), by simp [kStn, g28, AZ_cells, hA, wr], by simp [kLdn, get_put_eq (show H.next < H8.next by omega), rd, hA], ?_, by rw [next_put]; omega, fun k h1 h2 => ?_⟩
    · unfold Rd; rw [get_put_ne (by omega), hk8.2 b (by omega)]; exact r6
    · rw [get_put_ne (by omega), hk8.2 k (by omega)]; exact keep k h1 h2
  have hok : oOk l = (!(oTx l).isNone && (decide (kk ≤ 31) && A.fits)) := by unfold oOk; rw [← hkk, ← hAA]
  rw [hok]
  cases hT : (oTx l).isNone with
  | true =>
    obtain ⟨H9, q1, q2, q3, q4, q5⟩ := out H7 (Kp.refl _ _)
    rw [hT] at q3
    simp [ck, hck, hve, q1, q2, tup]
    exact ⟨q3, q4, q5⟩
  | false =>
    by_cases h31 : kk ≤ 31
    · have h31' : (kk : Int) ≤ 31 := by omega
      simp [ck, hck, hve, h31, h31', hld6]
      refine (Fits_t A).mono ?_
      rintro v H8 ⟨hk8, rfl⟩
      have hld8 := hld H8 ((hk8.2 _ (by omega)).trans g6)
      have hck8 : kop (.ldn 5 (.c (.pointer (some ⟨H5.next, 0, none⟩)))) [] H8 = some (.agg A.cells.toArray, H8) := by
        show (kLdn H8 5 (.pointer (some ⟨H5.next, 0, none⟩))).map (·, H8) = _
        rw [hld8]; rfl
      obtain ⟨H9, q1, q2, q3, q4, q5⟩ := out H8 hk8
      rw [hT] at q3
      simp [ck, hck8, hve, q1, q2, tup]
      exact ⟨q3, q4, q5⟩
    · have h31' : ¬ (kk : Int) ≤ 31 := by omega
      obtain ⟨H9, q1, q2, q3, q4, q5⟩ := out H7 (Kp.refl _ _)
      rw [hT] at q3
      simp [ck, hck, hve, h31, h31', q1, q2, tup]
      exact ⟨q3, q4, q5⟩
end Go.Proofs.Ytlboioplemlneaa.K
