/- The statement LitsBack: any bytes in short are no longer than they are, and are decoded as they were, whatever stands behind; the document's reading says so, too. Proved for every two texts. Condition: none. -/
import Derived.Test.YtlboioplemlneaaGreatPI
import Derived.Test.YtlboioplemlneaaGreatRows
import Derived.WalkKit
import Derived.ProofKit
import Derived.OpenShut
set_option maxRecDepth 100000
set_option maxHeartbeats 4000000
set_option linter.unusedVariables false
set_option linter.unusedSimpArgs false
namespace Go.Proofs.YtlboioplemlneaaGreat.K
open Go Go.Proofs
theorem aw15 : (evFn S 60 5 [] []).map (·.1) = some (.bool true) := by kernel_rfl
theorem lawLitsBack (st st2 : ByteArray) (hst : st.size ≤ maxLen) (hst2 : st2.size ≤ maxLen) : Wf S 3 [.string st, .string st2] [] fun v _ => v = .bool true := by
  obtain ⟨s, rfl⟩ : ∃ s, st = ofL s := ⟨_, (ofL_data st).symm⟩
  obtain ⟨b, rfl⟩ : ∃ b, st2 = ofL b := ⟨_, (ofL_data st2).symm⟩
  refine w3 rfl rfl _ _ ?_
  simp [s3]
  refine (run_of aw15).mono ?_
  rintro v H1 rfl
  by_cases h4 : (300 : Int) < s.length
  · simp [h4, ofL_size]
  by_cases h5 : (20 : Int) < b.length
  · simp [h4, h5, ofL_size]
  simp [h4, h5, ofL_size]
  refine (LEncode_t (s := s) (by omega)).mono ?_
  rintro v H2 ⟨hk2, t, rfl, hok⟩
  have htl := hok.le
  have hgl := grp_len10 (v := s.length) (by omega)
  have hrl : (rawT s).length ≤ 400 := by simp [rawT]; omega
  have hdec := litD_app hok.dec b
  simp only [List.nil_append] at hdec
  have ha := s_add (l := t) (m := b) (by omega)
  have htb : (t ++ b).length ≤ 100000 := by rw [List.length_append]; omega
  rw [ha]
  simp only [oV_some]
  refine (rLDecode_t htb (s.length : Int) (by omega)).mono ?_
  rintro v H3 ⟨hk3, hv⟩
  rw [hdec] at hv
  have hel : (t ++ b).length - b.length = t.length := by rw [List.length_append]; omega
  simp only [LR, hel] at hv
  subst hv
  simp [ha]
  refine (curNew_t (t ++ b)).mono ?_
  rintro v H4 ⟨rfl, rfl⟩
  have hr : Rd (H3.push (RdB (t ++ b) false)) H3.next (t ++ b) false := get_last
  have hd := LDecode_t hr htb (s.length : Int)
  rw [hdec] at hd
  generalize H3.push (RdB (t ++ b) false) = H4 at *
  refine Wf.mono hd ?_
  rintro v H5 ⟨rfl, hr5⟩
  simp [ofL_size]
  refine (LRaw_t (s := s) (by omega)).mono ?_
  rintro v H6 ⟨hk6, rfl⟩
  have hle : (t.length : Int) ≤ (rawT s).length := by omega
  simp [ofL_size, hle, htl]
  refine (LRaw_t (s := s) (by omega)).mono ?_
  rintro v H7 ⟨hk7, rfl⟩
  try simp
  refine (rText_t s (by omega)).mono ?_
  rintro v H8 ⟨hk8, rfl⟩
  have hbs : bs [0] = ofL [0] := rfl
  have ha2 := s_add (l := [0]) (m := txt s) (by simp [txt]; omega)
  have hraw : rawT s = [0] ++ txt s := rfl
  have ha3 : kBin .add (.string (ofL [0])) (.string (ofL (txt s))) = some (.string (ofL (rawT s))) := by rw [ha2, hraw]
  rw [hbs, ha3]
  have hr8 : Rd H8 H3.next b false := (hk8.2 _ (Nat.lt_of_lt_of_le hr5.lt (Nat.le_trans hk6.1 hk7.1))).trans ((hk7.2 _ (Nat.lt_of_lt_of_le hr5.lt hk6.1)).trans ((hk6.2 _ hr5.lt).trans hr5))
  simp [s_eql, ofL_size]
  refine (Rest_t hr8).mono ?_
  rintro v H9 ⟨rfl, _⟩
  simp [s_eql]
end Go.Proofs.YtlboioplemlneaaGreat.K
namespace Go.Proofs.YtlboioplemlneaaGreat.litsBack
open Go Go.Proofs Go.ChangeShapes Go.WideShapes Go.ChangeAt Go.RowKit
theorem own : ownKnob Tryz.prog.godebug = none := by kernel_rfl
theorem laid : laidOutB Tryz.prog = true := by kernel_rfl
set_option maxRecDepth 100000 in
theorem lifted (os : Os) (started : os.Started) (H : Type) (enc : TypeId × Value → H) :
    ReturnsInHanded {} Tryz.checked os 3 .any (Rows.litsBackSpec.pre6 enc Tryz.prog Tryz.f3 Rows.litsBackRow.domain false) (Rows.litsBackSpec.post enc Tryz.prog Tryz.f3 false true false false) := by
  refine returnsInHanded_of_change (C := Tryz.checked) own started (by kernel_rfl) Tryz.func3
    (ChangeSpec.witness6 (enc := enc) (C := Tryz.checked) false ⟨#[], #[.string ⟨#[]⟩, .string ⟨#[]⟩], []⟩ 8 (by kernel_rfl) (by kernel_rfl) (by kernel_rfl) (by kernel_rfl)) ?_
  intro W base args ds gs before hval0 hW hcnd _
  have hval : ∀ (j : Nat) t v, Tryz.f3.params[j]? = some t → args[j]? = some v → Value.okWide Tryz.prog W .any base t v := hval0
  have hW' := hW
  obtain ⟨p, q, hA0, hV, rfl, hfz, hnd⟩ := hW
  have hA : DataW.TrodAll enc Tryz.prog W 0 (fun _ => true) true Tryz.f3.params.toList args.toList ds p := hA0
  rw [Tryz.params3] at hA hval
  have hA1 := hA
  obtain ⟨v0, vs0, d0, ds0, p0, q0, hargs, rfl, rfl, h0, r0⟩ := trodAll_cons hA
  obtain ⟨v1, vs1, d1, ds1, p1, q1, rfl, rfl, rfl, h1, r1⟩ := trodAll_cons r0
  obtain ⟨rfl, rfl, rfl⟩ := trodAll_nil r1
  obtain rfl : args = #[v0, v1] := by cases args; simp_all
  obtain ⟨rfl, rfl⟩ := trodVars_none hV
  have HR0 := K.HRel.nil (P := Tryz.prog) W
  have hn0 : ∀ b : Nat, (K.Heap.get [] b).own = false := fun b => rfl
  obtain ⟨a0, rfl, w0⟩ := K.arg_str Tryz.underlying9 (hval 0 9 v0 rfl rfl) h0
  obtain ⟨a1, rfl, w1⟩ := K.arg_str Tryz.underlying9 (hval 1 9 v1 rfl rfl) h1
  clear hA0 hval0
  refine (K.calls_of K.S_ok (K.lawLitsBack a0 a1 w0 w1) HR0 (K.VL.cons (K.VRel.string a0) (K.VL.cons (K.VRel.string a1) K.VL.nil))).mono fun e W' ⟨he, hb⟩ => ?_
  subst he
  exact ⟨_, rfl, K.post_of_below (pa := _) (pv := []) hW' (fun _ _ _ => (trodAll_cons_mk (shut_bool Tryz.underlying4 _) trodAll_mk0)) (fun sp hsp => K.trodAll_stays laid hb hA1 (by
      intro t ht
      replace ht : t ∈ ([9, 9] : List TypeId) := ht
      simp only [List.mem_cons, List.not_mem_nil, or_false] at ht
      rcases ht with rfl | rfl <;> exact ⟨by kernel_rfl, of_decide_eq_true (by kernel_rfl)⟩) (fun x hx => hW'.lt x (by simpa using hx)) (fun x hx => hsp x (by simpa using hx))) (fun _ _ => rfl) rfl
    hb (ok_one (by kernel_rfl) rfl (okWide_bool_mk Tryz.underlying4 _))⟩
theorem over : Rows.litsBackRow.holds Tryz.pinned (OpenSpec.ofChange Rows.litsBackSpec) :=
  OpenClaim.holds_of_wide 3 Tryz.f3 rfl rfl rfl rfl rfl rfl rfl ⟨rfl, rfl, rfl, rfl, rfl⟩ rfl rfl rfl rfl rfl (by kernel_rfl) Tryz.func3 (by kernel_rfl)
    (of_decide_eq_true (by kernel_rfl)) (by unfold Func.isWrapper; first | (rw [if_pos (by decide +kernel)]; kernel_rfl) | (rw [if_neg (by decide +kernel)]; exact ⟨rfl, rfl⟩))
    (fun os started H enc _ => lifted os started H enc)
theorem proved : Rows.LitsBackSaid :=
  over
end Go.Proofs.YtlboioplemlneaaGreat.litsBack
