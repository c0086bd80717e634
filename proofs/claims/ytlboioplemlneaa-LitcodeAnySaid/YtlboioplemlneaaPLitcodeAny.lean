/- The statement LitcodeAny: any bytes are decoded by any whole lengths as the document says; what is decoded has just this code. Proved for every list of lengths, every text and every number. Condition: none. -/
import Derived.Test.YtlboioplemlneaaPBitsU
import Derived.Test.YtlboioplemlneaaRows
import Derived.WalkKit
import Derived.ProofKit
import Derived.OpenShut
set_option maxRecDepth 100000
set_option maxHeartbeats 4000000
set_option linter.unusedVariables false
set_option linter.unusedSimpArgs false
namespace Go.Proofs.Ytlboioplemlneaa.K
open Go Go.Proofs
theorem lawAny (kv : Value) (blk : Blk) (st : ByteArray) (n : Int) (hk : ArgSl [.int .i64] 3 0 kv blk) (hst : st.size ≤ maxLen) (hnw : (Lit.int .i64 n).wf = true) : Wf S 5 [kv, .string st, .int .i64 n] [blk] fun v _ => v = .bool true := by
  obtain ⟨a, c, l, rfl, hm, _, ha⟩ := arg_ints hk
  obtain ⟨s, rfl⟩ : ∃ s, st = ofL s := ⟨_, (ofL_data st).symm⟩
  rw [ofL_size] at hst
  refine w5 rfl rfl _ _ _ ?_
  simp [s5]
  refine (aw' blk).mono ?_
  rintro v H1 ⟨rfl, hblk⟩
  have hl := iv_of ha hblk
  by_cases h3 : (256 : Int) < l.length
  · simp [h3]
  by_cases h4 : (60 : Int) < s.length
  · simp [h3, h4, ofL_size]
  by_cases h5 : 300 < n ∧ n ≤ 1048576
  · simp [h3, h4, h5, ofL_size]
  have hnb := bounds_i64 hnw
  by_cases h6 : (300 : Int) < n
  · have h7 : ¬ n ≤ 1048576 := by omega
    have h8 : ¬ n < 0 := by omega
    have h9 : (1048576 : Int) < n := by omega
    simp [h3, h4, h6, h7, ofL_size]
    refine (rWhole_t hl hm).mono ?_
    rintro v H2 ⟨rfl, rfl⟩
    by_cases hw : wholeB l = true
    · simp [hw]
      refine (Decode_t (s := s) hl hm (by omega) n).mono ?_
      rintro v H3 ⟨hk3, hv⟩
      rw [if_neg (by omega)] at hv
      subst hv
      simp [h8, h9]
    · simp [hw]
  · simp [h3, h4, h6, ofL_size]
    refine (rWhole_t hl hm).mono ?_
    rintro v H2 ⟨rfl, rfl⟩
    by_cases hw : wholeB l = true
    · simp [hw]
      refine (Decode_t (s := s) hl hm (by omega) n).mono ?_
      rintro v H3 ⟨hk3, hv⟩
      by_cases h8 : n < 0
      · rw [if_neg (by omega)] at hv
        subst hv
        simp [h8]
      · have h9 : ¬ (1048576 : Int) < n := by omega
        obtain ⟨m, rfl⟩ : ∃ m : Nat, n = (m : Int) := ⟨n.toNat, by omega⟩
        rw [if_pos ⟨hw, by omega, by omega⟩, Int.toNat_natCast] at hv
        have hl3 := hl.kp hk3
        have hr4 := rDecode_t (c := c) (s := s) hl3 hw (by omega) m (by omega)
        cases hF : decF l s m with
        | none =>
          rw [hF] at hv hr4
          simp only at hv hr4
          subst hv
          simp [h8, h9]
          refine hr4.mono ?_
          rintro v H4 ⟨hk4, rfl⟩
          have hb0 : ∀ K : Kv, run S (.b2s 5 (.c (.slice none 0 0))) [] H4 K = K (.string (ofL [])) H4 := fun K => s_b2s (l := []) (a := none) rfl
          simp [kEq, kEq1, hb0, s_neq]
        | some d =>
          rw [hF] at hv hr4
          simp only at hv hr4
          obtain ⟨w, rfl, hA⟩ := hv
          obtain ⟨hok, hdl⟩ := decF_ok hw hF
          obtain ⟨wa, wc, rfl, _⟩ := hA.len
          simp [h8, h9]
          refine hr4.mono ?_
          rintro v H4 ⟨hk4, w2, rfl, hA2⟩
          have hA4 := hA.kp (H' := H4) fun k _ hk => hk4.2 k hk
          obtain ⟨a5, c5, e5, hrow5⟩ := hA4.row
          obtain ⟨rfl, _, rfl⟩ := (Value.slice.injEq _ _ _ _ _ _).mp e5
          obtain ⟨a6, c6, rfl, hrow6⟩ := hA2.row
          have hb5 := fun K => s_b2s (S := S) (e := []) (K := K) (c := wc) hrow5
          have hb6 := fun K => s_b2s (S := S) (e := []) (K := K) (c := c6) hrow6
          have hbv : Bv H4 wa d := fun hp => by
            rcases hA4 with ⟨h, _, _⟩ | ⟨b', c', r1, r2, r3, r4, r5, r6⟩
            · omega
            · simp only [Value.slice.injEq] at r3
              obtain ⟨rfl, _, _⟩ := r3
              exact ⟨b', 0, _, true, rfl, r5, fun i x hx => by simp [bvs, hx]⟩
          simp [kEq, kEq1, hb5, hb6, s_neq]
          refine (Encode_t (c := c) (c2 := wc) (hl3.kp hk4) hm hbv (by omega)).mono ?_
          rintro v H5 ⟨hk5, h⟩
          rcases h with ⟨_, _, s', rfl, hp⟩ | ⟨hno, _⟩
          · obtain ⟨rfl, _, _⟩ := decF_back hw hF hp
            simp [s_eql]
          · exact absurd ⟨hw, hok⟩ hno
    · simp [hw]
end Go.Proofs.Ytlboioplemlneaa.K
namespace Go.Proofs.Ytlboioplemlneaa.litcodeAny
open Go Go.Proofs Go.ChangeShapes Go.WideShapes Go.ChangeAt Go.RowKit
theorem own : ownKnob Try.prog.godebug = none := by kernel_rfl
theorem laid : laidOutB Try.prog = true := by kernel_rfl
set_option maxRecDepth 100000 in
theorem lifted (os : Os) (started : os.Started) (H : Type) (enc : TypeId × Value → H) :
    ReturnsInHanded {} Try.checked os 5 .any (Rows.litcodeAnySpec.pre6 enc Try.prog Try.f5 Rows.litcodeAnyRow.domain false) (Rows.litcodeAnySpec.post enc Try.prog Try.f5 false true false false) := by
  refine returnsInHanded_of_change (C := Try.checked) own started (by kernel_rfl) Try.func5
    (ChangeSpec.witness6 (enc := enc) (C := Try.checked) false ⟨#[], #[.slice none 0 0, .string ⟨#[]⟩, .int .i64 0], []⟩ 8 (by kernel_rfl) (by kernel_rfl) (by kernel_rfl) (by kernel_rfl)) ?_
  intro W base args ds gs before hval0 hW hcnd _
  have hval : ∀ (j : Nat) t v, Try.f5.params[j]? = some t → args[j]? = some v → Value.okWide Try.prog W .any base t v := hval0
  have hW' := hW
  obtain ⟨p, q, hA0, hV, rfl, hfz, hnd⟩ := hW
  have hA : DataW.TrodAll enc Try.prog W 0 (fun _ => true) true Try.f5.params.toList args.toList ds p := hA0
  rw [Try.params5] at hA hval
  have hA1 := hA
  obtain ⟨v0, vs0, d0, ds0, p0, q0, hargs, rfl, rfl, h0, r0⟩ := trodAll_cons hA
  obtain ⟨v1, vs1, d1, ds1, p1, q1, rfl, rfl, rfl, h1, r1⟩ := trodAll_cons r0
  obtain ⟨v2, vs2, d2, ds2, p2, q2, rfl, rfl, rfl, h2, r2⟩ := trodAll_cons r1
  obtain ⟨rfl, rfl, rfl⟩ := trodAll_nil r2
  obtain rfl : args = #[v0, v1, v2] := by cases args; simp_all
  obtain ⟨rfl, rfl⟩ := trodVars_none hV
  have HR0 := K.HRel.nil (P := Try.prog) W
  have hn0 : ∀ b : Nat, (K.Heap.get [] b).own = false := fun b => rfl
  obtain ⟨a0, b0, ρ1, p1x, x0, HR1, hn1, w0⟩ := K.arg_slice (e := 3) (d := 6) (ks := [.int .i64]) Try.underlying38 (by kernel_rfl) (by kernel_rfl) (by decide) (hval 0 38 v0 rfl rfl) h0 HR0 hn0
  obtain ⟨a1, rfl, w1⟩ := K.arg_str Try.underlying9 (hval 1 9 v1 rfl rfl) h1
  obtain ⟨a2, rfl, _, _, w2⟩ := open_int Try.underlying3 (hval 2 3 v2 rfl rfl) h2
  clear hA0 hval0
  refine (K.calls_of K.S_ok (K.lawAny a0 b0 a1 a2 w0 w1 w2) HR1 (K.VL.cons x0 (K.VL.cons (K.VRel.string a1) (K.VL.cons (K.VRel.int .i64 a2) K.VL.nil)))).mono fun e W' ⟨he, hb⟩ => ?_
  subst he
  exact ⟨_, rfl, K.post_of_below (pa := _) (pv := []) hW' (fun _ _ _ => (trodAll_cons_mk (shut_bool Try.underlying4 _) trodAll_mk0)) (fun sp hsp => K.trodAll_stays laid hb hA1 (by
      intro t ht
      replace ht : t ∈ ([38, 9, 3] : List TypeId) := ht
      simp only [List.mem_cons, List.not_mem_nil, or_false] at ht
      rcases ht with rfl | rfl | rfl <;> exact ⟨by kernel_rfl, of_decide_eq_true (by kernel_rfl)⟩) (fun x hx => hW'.lt x (by simpa using hx)) (fun x hx => hsp x (by simpa using hx))) (fun _ _ => rfl) rfl
    hb (ok_one (by kernel_rfl) rfl (okWide_bool_mk Try.underlying4 _))⟩
theorem over : Rows.litcodeAnyRow.holds Try.pinned (OpenSpec.ofChange Rows.litcodeAnySpec) :=
  OpenClaim.holds_of_wide 5 Try.f5 rfl rfl rfl rfl rfl rfl rfl ⟨rfl, rfl, rfl, rfl, rfl⟩ rfl rfl rfl rfl rfl (by kernel_rfl) Try.func5 (by kernel_rfl)
    (of_decide_eq_true (by kernel_rfl)) (by unfold Func.isWrapper; first | (rw [if_pos (by decide +kernel)]; kernel_rfl) | (rw [if_neg (by decide +kernel)]; exact ⟨rfl, rfl⟩))
    (fun os started H enc _ => lifted os started H enc)
theorem proved : Rows.LitcodeAnySaid :=
  over
end Go.Proofs.Ytlboioplemlneaa.litcodeAny
