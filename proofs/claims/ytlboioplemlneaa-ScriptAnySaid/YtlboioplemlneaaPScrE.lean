/- Scripts: bytes as acts, by the program; the same acts? -/
import Derived.Test.YtlboioplemlneaaPScrD
set_option maxRecDepth 100000
set_option maxHeartbeats 4000000
set_option linter.unusedVariables false
set_option linter.unusedSimpArgs false
namespace Go.Proofs.Ytlboioplemlneaa.K
open Go Go.Proofs
section
variable {H : Heap} {a : Option Addr} {c : Nat} {L : List Ac} {s : Bytes}
structure ScJ (H0 : Heap) (s : Bytes) (d : Nat) (e : Fe) (H : Heap) (k : Nat) : Prop where
  h1 : k ≤ s.length
  h2 : d = s.length - k
  kp : Kp H0.next H0 H
  r : ∃ i L, stS s i = some (L, k) ∧ Acc 25 5 H0.next H.next H (e 5) L.length (L.flatMap Ac.cells)
  e0 : e 0 = .string (ofL s)
  e6 : e 6 = .int .i64 k
def DecV (N M : Nat) (s : Bytes) (H : Heap) (v : Value) : Prop := ∃ i L k, stS s i = some (L, k) ∧
  ((k = s.length ∧ ∃ w, v = .tuple #[w, .int .i64 0, .int .i64 0] ∧ Acc 25 5 N M H w L.length (L.flatMap Ac.cells)) ∨ (k < s.length ∧ pA (s.drop k) = none ∧ v = .tuple #[.slice none 0 0, .int .i64 3, .int .i64 k]))
theorem sDecode_t (hs : s.length ≤ 100000) : Wf S 18 [.string (ofL s)] H fun v H' => Kp H.next H H' ∧ DecV H.next H'.next s H' v := by
  refine w18 rfl rfl _ ?_
  simp [s18]
  refine l18_0 S (fun d e H' => ∃ k, ScJ H s d e H' k) s.length ⟨0, by omega, by omega, Kp.refl _ _, ⟨0, [], rfl, by simpa using Acc.nil⟩, by simp, by simp⟩ ?_
  rintro d e H1 ⟨k, hk, rfl, hkp, ⟨i, L, hst, hA⟩, e0, e6⟩
  obtain ⟨q1, q2, q3, q4, q5⟩ := stS_inv i L k hst
  by_cases h3 : k < s.length
  · have h3' : (k : Int) < s.length := by omega
    have hle : (0 : Int) ≤ k ∧ (k : Int) ≤ s.length := by omega
    have hfr := fun K (H : Heap) => s_from (S := S) (e := []) (H := H) (K := K) (l := s) (k := .i64) (a := (k : Int))
    simp only [if_pos hle, Int.toNat_natCast] at hfr
    simp [s18_0, e0, e6, ofL_size, h3, h3', hfr]
    refine (curNew_t (s.drop k)).mono ?_
    rintro v H2 ⟨rfl, rfl⟩
    have r2 : Rd (H1.push (RdB (s.drop k) false)) H1.next (s.drop k) false := get_last
    have n2 : (H1.push (RdB (s.drop k) false)).next = H1.next + 1 := next_push
    have k2 : Kp H1.next H1 (H1.push (RdB (s.drop k) false)) := Kp.push (Nat.le_refl _)
    generalize H1.push (RdB (s.drop k) false) = H2 at *
    try simp
    refine (one_t r2).mono ?_
    rintro v H3 ⟨rfl, r3, n3, k3⟩
    have hpa := one_pA (s.drop k)
    have k13 : Kp H1.next H1 H3 := ⟨by omega, fun j hj => (k3 j (by omega) (by omega)).trans (k2.2 j hj)⟩
    have kf : Kp H.next H H3 := hkp.trans (k13.mono hkp.1)
    have bsz : (.string (bs []) : Value) = .string ⟨#[]⟩ := rfl
    obtain ⟨A, hAA⟩ : ∃ A, A = oA (s.drop k) := ⟨_, rfl⟩
    rw [← hAA] at hpa ⊢
    have hst4 : kStn (H3.push (.cells [.int .i64 0, .int .i64 0, .int .i64 0, .bool false, .string ⟨#[]⟩] 25 true)) 5 (.pointer (some ⟨H3.next, 0, none⟩)) (.agg A.cells.toArray) = some (H3.push (.cells A.cells 25 true)) := by
      have := get_last (H := H3) (b := .cells [.int .i64 0, .int .i64 0, .int .i64 0, .bool false, .string ⟨#[]⟩] 25 true)
      simp [kStn, this, Ac.cells, wr]
    have g4 : (H3.push (.cells A.cells 25 true)).get H3.next = .cells A.cells 25 true := get_last
    have n4 : (H3.push (.cells A.cells 25 true)).next = H3.next + 1 := next_push
    have k4 : Kp H3.next H3 (H3.push (.cells A.cells 25 true)) := Kp.push (Nat.le_refl _)
    generalize hH4 : H3.push (.cells A.cells 25 true) = H4 at *
    cases hok : oOk (s.drop k) with
    | false =>
      rw [hok, if_neg (by simp)] at hpa
      simp [bsz, hst4, tup]
      exact ⟨kf.trans (k4.mono (by have := hkp.1; omega)), i, L, k, hst, .inr ⟨h3, hpa, rfl⟩⟩
    | true =>
      rw [hok, if_pos rfl] at hpa
      have hnx := stS_next hst hpa
      have hpl := pA_len hpa
      rw [List.length_drop] at hpl
      obtain ⟨R, hR⟩ : ∃ R, R = txL (oTx (s.drop k)) := ⟨_, rfl⟩
      rw [← hR] at hnx hpl r3 hpa
      have hT : (oTx (s.drop k)).isNone = false := by
        unfold oOk at hok
        simp only [Bool.and_eq_true] at hok
        simpa using hok.1
      rw [hT] at r3
      have hld : kLdn H4 5 (.pointer (some ⟨H3.next, 0, none⟩)) = some (.agg A.cells.toArray) := by simp [kLdn, g4, rd, Ac.cells]
      have hA4 : Acc 25 5 H.next H4.next H4 (e 5) L.length (L.flatMap Ac.cells) := (hA.kp (H' := H4) fun j _ hj => (k4.2 j (by omega)).trans (k13.2 j hj)).mono (by omega)
      obtain ⟨v5, H5, hap, hA5, n5, k5⟩ := hA4.app2 (bytes := 48) (new := A.cells) rfl (by unfold roomMax; omega)
      have hrow : kRow (H4.push (.cells A.cells 25 true)) 25 5 1 (some ⟨H4.next, 0, none⟩) = some A.cells := by simp [kRow, rd, Ac.cells]
      have hfl : ∀ (x1 x2 x3 : Int) (u : Bool) (t : ByteArray), kFill [.int .i64 0, .int .i64 0, .int .i64 0, .bool false, .string ⟨#[]⟩] (evPs [] [(0, (5, .c (.agg A.cells.toArray)))]) = some A.cells := fun _ _ _ _ _ => by simp [kFill, evPs, isTup, cellsL, wr, Ac.cells]
      have hfl := hfl 0 0 0 false ⟨#[]⟩
      have bnotA : ∀ b m c, e 5 = .slice (some b) m c → b.block < H1.next := fun b m c he => by
        rcases hA with ⟨_, _, h⟩ | ⟨b', c', r1, r2, h, _⟩
        · rw [h] at he; cases he
        · rw [h] at he
          simp only [Value.slice.injEq, Option.some.injEq] at he
          obtain ⟨rfl, _, _⟩ := he
          exact r2
      have r5 : Rd H5 H1.next R false := by
        have h45 := k5 H1.next (by omega) (fun b m c he => by have := bnotA b m c he; omega)
        exact (h45.trans (k4.2 _ (by omega))).trans r3
      have k15 : ∀ j, j < H.next → H5.get j = H4.get j := fun j hj => k5 j (by have := hkp.1; omega) (fun b m c he => by
        rcases hA with ⟨_, _, h⟩ | ⟨b', c', r1, r2, h, _⟩
        · rw [h] at he; cases he
        · rw [h] at he
          simp only [Value.slice.injEq, Option.some.injEq] at he
          obtain ⟨rfl, _, _⟩ := he
          simp only; omega)
      simp [bsz, hst4, hld, hfl, hrow, hap, e0, ofL_size]
      refine (Rest_t r5).mono ?_
      rintro v H6 ⟨rfl, hH6⟩
      simp only [Bool.false_eq_true, if_false] at hH6 ⊢
      have w1 : IntKind.i64.wrap ((s.length : Int) - R.length) = ((s.length - R.length : Nat) : Int) := by rw [wi (by omega) (by omega)]; omega
      obtain ⟨k', hk'⟩ : ∃ k', k' = s.length - R.length := ⟨_, rfl⟩
      rw [← hk'] at w1 hnx
      have n6 : H6.next = H5.next := by rw [hH6]; exact next_put
      have hA6 : Acc 25 5 H.next H6.next H6 v5 (L ++ [A]).length ((L ++ [A]).flatMap Ac.cells) := by
        rw [n6]
        have h7 : Acc 25 5 H4.next H5.next H6 v5 (L.length + 1) (L.flatMap Ac.cells ++ A.cells) := hA5.kp (H' := H6) fun j hj1 hj2 => by rw [hH6]; exact get_put_ne (by omega)
        rcases h7 with ⟨h, _⟩ | ⟨b', c', r1, r2, r3, r4, r5, r6⟩
        · omega
        · exact .inr ⟨b', c', by have := hkp.1; omega, r2, by simpa using r3, by simpa using r4, by simpa using r5, by simpa using r6⟩
      simp [ofL_size, w1]
      refine ⟨s.length - k', by omega, k', by omega, rfl, kf.trans ⟨by omega, fun j hj => ?_⟩, ⟨i + 1, L ++ [A], hnx, by simpa using hA6⟩, by simp [e0], by simp⟩
      rw [hH6, get_put_ne (by have := hkp.1; omega), k15 j hj, k4.2 j (by have := hkp.1; omega)]
  · have h5 : k = s.length := by omega
    subst h5
    simp [s18_0, e0, e6, ofL_size, tup]
    exact ⟨hkp, i, L, _, hst, .inl ⟨rfl, _, rfl, hA⟩⟩
theorem same33_t {a2 : Option Addr} {c2 : Nat} (h1 : Av H a L) (h2 : Av H a2 L) (hL : L.length ≤ 100000) : Wf S 19 [.slice a L.length c, .slice a2 L.length c2] H fun v H' => H' = H ∧ v = .bool true := by
  refine w19 rfl rfl _ _ ?_
  simp [s19]
  refine l19_0 S (fun d e H' => ∃ i : Nat, i ≤ L.length ∧ d = L.length - i ∧ H' = H ∧ e 0 = .slice a L.length c ∧ e 1 = .slice a2 L.length c2 ∧ e 12 = .int .i64 L.length ∧ e 13 = .int .i64 i) L.length ⟨0, by omega, by omega, rfl, by simp, by simp, by simp, by simp⟩ ?_
  rintro d e H' ⟨i, hi, rfl, rfl, e0, e1, e12, e13⟩
  by_cases h3 : i < L.length
  · obtain ⟨b1, rw1, rfl, hg1⟩ := h1 (by omega)
    obtain ⟨b2, rw2, rfl, hg2⟩ := h2 (by omega)
    obtain ⟨x, hx⟩ : ∃ x, L[i]? = some x := ⟨_, List.getElem?_eq_getElem h3⟩
    have hrd := acts_rd hx
    have hw : IntKind.i64.wrap ((i : Int) + 1) = (i : Int) + 1 := wi (by omega) (by omega)
    have hl1 : kLdn H' 5 (.pointer (some ⟨b1, i * 5, none⟩)) = some (.agg x.cells.toArray) := by simp [kLdn, hg1, hrd]
    have hl2 : kLdn H' 5 (.pointer (some ⟨b2, i * 5, none⟩)) = some (.agg x.cells.toArray) := by simp [kLdn, hg2, hrd]
    have hq : kEq (.agg [.int, .int, .int, .bool, .str]) (.agg x.cells.toArray) (.agg x.cells.toArray) = some true := by simp [kEq, Ac.cells, kEqL, kEq1]
    simp [s19_0, e0, e1, e12, e13, h3, addOff, hl1, hl2, hq, hw]
    exact ⟨L.length - (i + 1), by omega, i + 1, by omega, rfl, by omega⟩
  · have h5 : i = L.length := by omega
    subst h5
    simp [s19_0, e12, e13]
end
end Go.Proofs.Ytlboioplemlneaa.K
