/- The statement LitsAny: any bytes are decoded as the document says. Proved for every text and every number. Condition: none. -/
import Derived.Test.YtlboioplemlneaaGreatPF
import Derived.Test.YtlboioplemlneaaGreatRows
import Derived.WalkKit
import Derived.ProofKit
import Derived.OpenShut
set_option maxRecDepth 100000
set_option maxHeartbeats 4000000
set_option linter.unusedVariables false
set_option linter.unusedSimpArgs false
namespace Go.Proofs.YtlboioplemlneaaGreat.K
open Go Go.Proofs
theorem aw15 : (evFn S 60 5 [] []).map (·.1) = some (.bool true) := by kernel_rfl
theorem lawLits (st : ByteArray) (n : Int) (hst : st.size ≤ maxLen) (hnw : (Lit.int .i64 n).wf = true) : Wf S 4 [.string st, .int .i64 n] [] fun v _ => v = .bool true := by
  obtain ⟨s, rfl⟩ : ∃ s, st = ofL s := ⟨_, (ofL_data st).symm⟩
  have hnb := bounds_i64 hnw
  refine w4 rfl rfl _ _ ?_
  simp [s4]
  refine (run_of aw15).mono ?_
  rintro v H1 rfl
  by_cases h4 : (100 : Int) < s.length
  · simp [h4, ofL_size]
  by_cases h5 : 500 < n
  · simp [h4, h5, ofL_size]
  simp [h4, h5, ofL_size]
  refine (curNew_t s).mono ?_
  rintro v H2 ⟨rfl, rfl⟩
  have hr : Rd (H1.push (RdB s false)) H1.next s false := get_last
  have hd := LDecode_t hr (by omega) n
  generalize H1.push (RdB s false) = H2 at *
  try simp
  refine hd.mono ?_
  rintro v H3 hv
  have hrd := rLDecode_t (H := H3) (s := s) (by omega) n (by omega)
  cases ho : litD s n with
  | none =>
    rw [ho] at hv hrd
    obtain rfl := hv
    simp
    refine hrd.mono ?_
    rintro v H4 ⟨hk4, rfl⟩
    simp [kEq, kEq1, s_neq]
  | some p =>
    obtain ⟨hdr, hlt, hle⟩ := litD_ok ho
    obtain ⟨q, hq⟩ : ∃ q, q = s.length - p.2.length := ⟨_, rfl⟩
    rw [ho] at hv hrd
    obtain ⟨rfl, hr3⟩ := hv
    unfold LR at hrd
    simp only at hrd
    rw [← hq] at hdr hrd
    simp
    refine hrd.mono ?_
    rintro v H4 ⟨hk4, rfl⟩
    have hr4 : Rd H4 H1.next p.2 false := (hk4.2 _ hr3.lt).trans hr3
    have hq0 : (0 : Int) < q := by omega
    have hq0' : 0 < q := by omega
    have hqs : (q : Int) ≤ s.length := by omega
    have hqs' : q ≤ s.length := by omega
    simp [kEq, kEq1, s_neq, hq0, hq0']
    rw [s_from, if_pos ⟨by omega, hqs⟩, Int.toNat_natCast, hdr]
    refine (Rest_t hr4).mono ?_
    rintro v H5 ⟨rfl, _⟩
    simp [s_eql, ofL_size, hle]
end Go.Proofs.YtlboioplemlneaaGreat.K
namespace Go.Proofs.YtlboioplemlneaaGreat.litsAny
open Go Go.Proofs Go.ChangeShapes Go.WideShapes Go.ChangeAt Go.RowKit
theorem own : ownKnob Tryz.prog.godebug = none := by kernel_rfl
theorem laid : laidOutB Tryz.prog = true := by kernel_rfl
set_option maxRecDepth 100000 in
theorem lifted (os : Os) (started : os.Started) (H : Type) (enc : TypeId × Value → H) :
    ReturnsInHanded {} Tryz.checked os 4 .any (Rows.litsAnySpec.pre6 enc Tryz.prog Tryz.f4 Rows.litsAnyRow.domain false) (Rows.litsAnySpec.post enc Tryz.prog Tryz.f4 false true false false) := by
  refine returnsInHanded_of_change (C := Tryz.checked) own started (by kernel_rfl) Tryz.func4
    (ChangeSpec.witness6 (enc := enc) (C := Tryz.checked) false ⟨#[], #[.string ⟨#[]⟩, .int .i64 0], []⟩ 8 (by kernel_rfl) (by kernel_rfl) (by kernel_rfl) (by kernel_rfl)) ?_
  intro W base args ds gs before hval0 hW hcnd _
  have hval : ∀ (j : Nat) t v, Tryz.f4.params[j]? = some t → args[j]? = some v → Value.okWide Tryz.prog W .any base t v := hval0
  have hW' := hW
  obtain ⟨p, q, hA0, hV, rfl, hfz, hnd⟩ := hW
  have hA : DataW.TrodAll enc Tryz.prog W 0 (fun _ => true) true Tryz.f4.params.toList args.toList ds p := hA0
  rw [Tryz.params4] at hA hval
  have hA1 := hA
  obtain ⟨v0, vs0, d0, ds0, p0, q0, hargs, rfl, rfl, h0, r0⟩ := trodAll_cons hA
  obtain ⟨v1, vs1, d1, ds1, p1, q1, rfl, rfl, rfl, h1, r1⟩ := trodAll_cons r0
  obtain ⟨rfl, rfl, rfl⟩ := trodAll_nil r1
  obtain rfl : args = #[v0, v1] := by cases args; simp_all
  obtain ⟨rfl, rfl⟩ := trodVars_none hV
  have HR0 := K.HRel.nil (P := Tryz.prog) W
  have hn0 : ∀ b : Nat, (K.Heap.get [] b).own = false := fun b => rfl
  obtain ⟨a0, rfl, w0⟩ := K.arg_str Tryz.underlying9 (hval 0 9 v0 rfl rfl) h0
  obtain ⟨a1, rfl, _, _, w1⟩ := open_int Tryz.underlying3 (hval 1 3 v1 rfl rfl) h1
  clear hA0 hval0
  refine (K.calls_of K.S_ok (K.lawLits a0 a1 w0 w1) HR0 (K.VL.cons (K.VRel.string a0) (K.VL.cons (K.VRel.int .i64 a1) K.VL.nil))).mono fun e W' ⟨he, hb⟩ => ?_
  subst he
  exact ⟨_, rfl, K.post_of_below (pa := _) (pv := []) hW' (fun _ _ _ => (trodAll_cons_mk (shut_bool Tryz.underlying4 _) trodAll_mk0)) (fun sp hsp => K.trodAll_stays laid hb hA1 (by
      intro t ht
      replace ht : t ∈ ([9, 3] : List TypeId) := ht
      simp only [List.mem_cons, List.not_mem_nil, or_false] at ht
      rcases ht with rfl | rfl <;> exact ⟨by kernel_rfl, of_decide_eq_true (by kernel_rfl)⟩) (fun x hx => hW'.lt x (by simpa using hx)) (fun x hx => hsp x (by simpa using hx))) (fun _ _ => rfl) rfl
    hb (ok_one (by kernel_rfl) rfl (okWide_bool_mk Tryz.underlying4 _))⟩
theorem over : Rows.litsAnyRow.holds Tryz.pinned (OpenSpec.ofChange Rows.litsAnySpec) :=
  OpenClaim.holds_of_wide 4 Tryz.f4 rfl rfl rfl rfl rfl rfl rfl ⟨rfl, rfl, rfl, rfl, rfl⟩ rfl rfl rfl rfl rfl (by kernel_rfl) Tryz.func4 (by kernel_rfl)
    (of_decide_eq_true (by kernel_rfl)) (by unfold Func.isWrapper; first | (rw [if_pos (by decide +kernel)]; kernel_rfl) | (rw [if_neg (by decide +kernel)]; exact ⟨rfl, rfl⟩))
    (fun os started H enc _ => lifted os started H enc)
theorem proved : Rows.LitsAnySaid :=
  over
end Go.Proofs.YtlboioplemlneaaGreat.litsAny
