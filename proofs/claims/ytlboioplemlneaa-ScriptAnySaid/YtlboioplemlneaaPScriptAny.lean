/- The statement ScriptAny: any bytes are decoded as the document says, or the place is told where the first act begins that is none; what is decoded has just these bytes. Proved for every text. Condition: none. -/
import Derived.Test.YtlboioplemlneaaPScrF
import Derived.Test.YtlboioplemlneaaRows
import Derived.WalkKit
import Derived.ProofKit
import Derived.OpenShut
set_option maxRecDepth 100000
set_option maxHeartbeats 4000000
set_option linter.unusedVariables false
set_option linter.unusedSimpArgs false
namespace Go.Proofs.Ytlboioplemlneaa.K
open Go Go.Proofs
structure ASJ (HB : Heap) (s : Bytes) (w x y : Value) (d : Nat) (e : Fe) (H : Heap) (m : Nat) : Prop where
  h1 : m ≤ s.length
  h2 : d = s.length - m
  kp : Kp HB.next HB H
  r : ∃ j M, stS s j = some (M, m) ∧ Acc 25 5 HB.next H.next H (e 6) M.length (M.flatMap Ac.cells)
  e0 : e 0 = .string (ofL s)
  e3 : e 3 = w
  e4 : e 4 = x
  e5 : e 5 = y
  e7 : e 7 = .int .i64 m
theorem lawAny (st : ByteArray) (hst : st.size ≤ maxLen) : Wf S 4 [.string st] [] fun v _ => v = .bool true := by
  obtain ⟨s, rfl⟩ : ∃ s, st = ofL s := ⟨_, (ofL_data st).symm⟩
  rw [ofL_size] at hst
  refine w4 rfl rfl _ ?_
  simp [s4]
  refine aw'.mono ?_
  rintro v H1 rfl
  by_cases h3 : (300 : Int) < s.length
  · simp [h3, ofL_size]
  simp [h3, ofL_size]
  refine (sDecode_t (by omega)).mono ?_
  rintro v H2 ⟨hk2, i, L, k, hst1, hv⟩
  obtain ⟨q1, q2, q3, q4, q5⟩ := stS_inv i L k hst1
  -- the program's end is one that is told by what cannot be read on
  have hend : pA (s.drop k) = none := by
    rcases hv with ⟨rfl, _⟩ | ⟨_, h, _⟩
    · rw [List.drop_length]; rfl
    · exact h
  obtain ⟨w, x, y, rfl, hcase⟩ : ∃ w x y, v = .tuple #[w, .int .i64 x, .int .i64 y] ∧ ((k = s.length ∧ x = 0 ∧ y = 0 ∧ Acc 25 5 H1.next H2.next H2 w L.length (L.flatMap Ac.cells)) ∨ (k < s.length ∧ w = .slice none 0 0 ∧ x = 3 ∧ y = k)) := by
    rcases hv with ⟨h1, w, rfl, hA⟩ | ⟨h1, _, rfl⟩
    · exact ⟨w, 0, 0, rfl, .inl ⟨h1, rfl, rfl, hA⟩⟩
    · exact ⟨_, 3, k, rfl, .inr ⟨h1, rfl, rfl, rfl⟩⟩
  simp
  refine l4_0 S (fun d e H' => ∃ m, ASJ H2 s w (.int .i64 x) (.int .i64 y) d e H' m) s.length ⟨0, by omega, by omega, Kp.refl _ _, ⟨0, [], rfl, by simpa using Acc.nil⟩, by simp, by simp, by simp, by simp, by simp⟩ ?_
  rintro d e H3 ⟨m, hm, rfl, hkp, ⟨j, M, hstm, hA⟩, e0, e3, e4, e5, e7⟩
  obtain ⟨p1, p2, p3, p4, p5⟩ := stS_inv j M m hstm
  by_cases h4 : m < s.length
  · have h4' : (m : Int) < s.length := by omega
    have hle : (0 : Int) ≤ m ∧ (m : Int) ≤ s.length := by omega
    have hfr := fun K (H : Heap) => s_from (S := S) (e := []) (H := H) (K := K) (l := s) (k := .i64) (a := (m : Int))
    simp only [if_pos hle, Int.toNat_natCast] at hfr
    simp [s4_0, e0, e7, ofL_size, h4, h4', hfr]
    refine (rAct_t (s.drop m) (by rw [List.length_drop]; omega)).mono ?_
    rintro v H4 ⟨hk4, hg⟩
    have bsz : (.string (bs []) : Value) = .string ⟨#[]⟩ := rfl
    have stAct : ∀ A : Ac, kStn (H4.push (.cells [.int .i64 0, .int .i64 0, .int .i64 0, .bool false, .string ⟨#[]⟩] 25 true)) 5 (.pointer (some ⟨H4.next, 0, none⟩)) (.agg A.cells.toArray) = some (H4.push (.cells A.cells 25 true)) := fun A => by
      have := get_last (H := H4) (b := .cells [.int .i64 0, .int .i64 0, .int .i64 0, .bool false, .string ⟨#[]⟩] 25 true)
      simp [kStn, this, Ac.cells, wr]
    unfold gAct at hg
    cases hp : pA (s.drop m) with
    | none =>
      rw [hp] at hg
      obtain ⟨A, rfl⟩ := hg
      obtain ⟨rfl, rfl⟩ := stS_end hst1 hend hstm hp
      rcases hcase with ⟨h5, _⟩ | ⟨h5, rfl, rfl, rfl⟩
      · omega
      · simp [bsz, stAct A, e3, e4, e5, e7]
    | some ar =>
      obtain ⟨A, r⟩ := ar
      rw [hp] at hg
      simp only at hg
      subst hg
      have hpl := pA_len hp
      rw [List.length_drop] at hpl
      have hnx := stS_next hstm hp
      obtain ⟨n, hn⟩ : ∃ n, n = (s.drop m).length - r.length := ⟨_, rfl⟩
      rw [List.length_drop] at hn
      have hn0 : ¬ n = 0 := by omega
      have hnm : s.length - r.length = m + n := by omega
      rw [hnm] at hnx
      have hne : (s.drop m).length - r.length = n := by rw [List.length_drop]; exact hn.symm
      rw [hne]
      have w1 : IntKind.i64.wrap ((m : Int) + n) = ((m + n : Nat) : Int) := by rw [wi (by omega) (by omega)]; omega
      obtain ⟨m', hm'⟩ : ∃ m', m' = m + n := ⟨_, rfl⟩
      rw [← hm'] at w1 hnx
      have g5 : (H4.push (.cells A.cells 25 true)).get H4.next = .cells A.cells 25 true := get_last
      have n5 : (H4.push (.cells A.cells 25 true)).next = H4.next + 1 := next_push
      have k5 : Kp H4.next H4 (H4.push (.cells A.cells 25 true)) := Kp.push (Nat.le_refl _)
      have hsA := stAct A
      generalize H4.push (.cells A.cells 25 true) = H5 at *
      have hn4 := hk4.1
      have hA5 : Acc 25 5 H2.next H5.next H5 (e 6) M.length (M.flatMap Ac.cells) := (hA.kp (H' := H5) fun q _ hq => (k5.2 q (by omega)).trans (hk4.2 q hq)).mono (by omega)
      obtain ⟨v6, H6, hap, hA6, n6, k6⟩ := hA5.app (bytes := 48) (new := A.cells) (by have := hkp.1; omega) (Nat.le_refl _) rfl (by unfold roomMax; omega)
      have hrow : kRow (H5.push (.cells A.cells 25 true)) 25 5 1 (some ⟨H5.next, 0, none⟩) = some A.cells := by simp [kRow, rd, Ac.cells]
      have hfl : kFill [.int .i64 0, .int .i64 0, .int .i64 0, .bool false, .string ⟨#[]⟩] (evPs [] [(0, (5, .c (.agg A.cells.toArray)))]) = some A.cells := by simp [kFill, evPs, isTup, cellsL, wr, Ac.cells]
      have hld : kLdn H5 5 (.pointer (some ⟨H4.next, 0, none⟩)) = some (.agg A.cells.toArray) := by simp [kLdn, g5, rd, Ac.cells]
      simp [bsz, hsA, hn0, hld, hfl, hrow, hap, e7, w1]
      refine ⟨s.length - m', by omega, m', by omega, rfl, hkp.trans ⟨by omega, fun q hq => ?_⟩, ⟨j + 1, M ++ [A], hnx, by simpa using hA6⟩, by simp [e0], by simp [e3], by simp [e4], by simp [e5], by simp⟩
      have := hkp.1
      rw [k6 q (by omega) (.inl hq), k5.2 q (by omega), hk4.2 q (by omega)]
  · have h5 : m = s.length := by omega
    subst h5
    have hp : pA (s.drop s.length) = none := by rw [List.drop_length]; rfl
    obtain ⟨rfl, rfl⟩ := stS_end hst1 hend hstm hp
    rcases hcase with ⟨_, rfl, rfl, hAw⟩ | ⟨h6, _⟩
    · obtain ⟨a1, c1, rfl, hav⟩ := hAw.av
      obtain ⟨a2, c2, e6, hav2⟩ := hA.av
      have hav3 := hav.kp hkp
      rw [List.take_length] at q3
      have hall : allF L = true := by unfold allF; rw [List.all_eq_true]; exact q4
      simp [s4_0, e0, e7, ofL_size, e3]
      refine (sEncode_t (c := c1) hav3 (by omega)).mono ?_
      rintro v H4 ⟨hk4, h⟩
      rcases h with ⟨_, rfl⟩ | ⟨h, _⟩
      · rw [← q3]
        simp [e3, e4, e5, e6]
        refine (same33_t (c := c1) (c2 := c2) (hav3.kp hk4) (hav2.kp hk4) (by omega)).mono ?_
        rintro v H5 ⟨rfl, rfl⟩
        simp [e0, s_eql]
      · rw [hall] at h; cases h
    · omega
end Go.Proofs.Ytlboioplemlneaa.K
namespace Go.Proofs.Ytlboioplemlneaa.scriptAny
open Go Go.Proofs Go.ChangeShapes Go.WideShapes Go.ChangeAt Go.RowKit
theorem own : ownKnob Try.prog.godebug = none := by kernel_rfl
theorem laid : laidOutB Try.prog = true := by kernel_rfl
set_option maxRecDepth 100000 in
theorem lifted (os : Os) (started : os.Started) (H : Type) (enc : TypeId × Value → H) :
    ReturnsInHanded {} Try.checked os 4 .any (Rows.scriptAnySpec.pre6 enc Try.prog Try.f4 Rows.scriptAnyRow.domain false) (Rows.scriptAnySpec.post enc Try.prog Try.f4 false true false false) := by
  refine returnsInHanded_of_change (C := Try.checked) own started (by kernel_rfl) Try.func4
    (ChangeSpec.witness6 (enc := enc) (C := Try.checked) false ⟨#[], #[.string ⟨#[]⟩], []⟩ 8 (by kernel_rfl) (by kernel_rfl) (by kernel_rfl) (by kernel_rfl)) ?_
  intro W base args ds gs before hval0 hW hcnd _
  have hval : ∀ (j : Nat) t v, Try.f4.params[j]? = some t → args[j]? = some v → Value.okWide Try.prog W .any base t v := hval0
  have hW' := hW
  obtain ⟨p, q, hA0, hV, rfl, hfz, hnd⟩ := hW
  have hA : DataW.TrodAll enc Try.prog W 0 (fun _ => true) true Try.f4.params.toList args.toList ds p := hA0
  rw [Try.params4] at hA hval
  have hA1 := hA
  obtain ⟨v0, vs0, d0, ds0, p0, q0, hargs, rfl, rfl, h0, r0⟩ := trodAll_cons hA
  obtain ⟨rfl, rfl, rfl⟩ := trodAll_nil r0
  obtain rfl : args = #[v0] := by cases args; simp_all
  obtain ⟨rfl, rfl⟩ := trodVars_none hV
  have HR0 := K.HRel.nil (P := Try.prog) W
  have hn0 : ∀ b : Nat, (K.Heap.get [] b).own = false := fun b => rfl
  obtain ⟨a0, rfl, w0⟩ := K.arg_str Try.underlying9 (hval 0 9 v0 rfl rfl) h0
  clear hA0 hval0
  refine (K.calls_of K.S_ok (K.lawAny a0 w0) HR0 (K.VL.cons (K.VRel.string a0) K.VL.nil)).mono fun e W' ⟨he, hb⟩ => ?_
  subst he
  exact ⟨_, rfl, K.post_of_below (pa := _) (pv := []) hW' (fun _ _ _ => (trodAll_cons_mk (shut_bool Try.underlying4 _) trodAll_mk0)) (fun sp hsp => K.trodAll_stays laid hb hA1 (by
      intro t ht
      replace ht : t ∈ ([9] : List TypeId) := ht
      simp only [List.mem_cons, List.not_mem_nil, or_false] at ht
      subst ht; exact ⟨by kernel_rfl, of_decide_eq_true (by kernel_rfl)⟩) (fun x hx => hW'.lt x (by simpa using hx)) (fun x hx => hsp x (by simpa using hx))) (fun _ _ => rfl) rfl
    hb (ok_one (by kernel_rfl) rfl (okWide_bool_mk Try.underlying4 _))⟩
theorem over : Rows.scriptAnyRow.holds Try.pinned (OpenSpec.ofChange Rows.scriptAnySpec) :=
  OpenClaim.holds_of_wide 4 Try.f4 rfl rfl rfl rfl rfl rfl rfl ⟨rfl, rfl, rfl, rfl, rfl⟩ rfl rfl rfl rfl rfl (by kernel_rfl) Try.func4 (by kernel_rfl)
    (of_decide_eq_true (by kernel_rfl)) (by unfold Func.isWrapper; first | (rw [if_pos (by decide +kernel)]; kernel_rfl) | (rw [if_neg (by decide +kernel)]; exact ⟨rfl, rfl⟩))
    (fun os started H enc _ => lifted os started H enc)
theorem proved : Rows.ScriptAnySaid :=
  over
end Go.Proofs.Ytlboioplemlneaa.scriptAny
