/- The statement HuffWhole: whether any lengths are whole, and their codes, is the document's. Proved for every list of lengths. Condition: none. -/
import Derived.Test.YtpcpelbbeofenaaPHuffE
import Derived.Test.YtpcpelbbeofenaaRows
import Derived.WalkKit
import Derived.ProofKit
import Derived.OpenShut
set_option maxRecDepth 100000
set_option maxHeartbeats 2000000
set_option linter.unusedVariables false
set_option linter.unusedSimpArgs false
namespace Go.Proofs.Ytpcpelbbeofenaa.K
open Go Go.Proofs
theorem lawWhole (kv : Value) (blk : Blk) (hk : ArgSl [.int .i64] 3 0 kv blk) : Wf S 13 [kv] [blk] fun v _ => v = .bool true := by
  obtain ⟨a, c, l, rfl, hm, _, ha⟩ := arg_ints hk
  refine w13 rfl rfl _ ?_
  simp [s13]
  refine (aw' blk).mono ?_
  rintro v H1 ⟨rfl, hblk⟩
  by_cases h3 : (300 : Int) < l.length
  · simp [h3]
  have hl := iv_of ha hblk
  simp [h3]
  refine (rWhole_t hl hm).mono ?_
  rintro v H2 ⟨rfl, rfl⟩
  try simp
  refine (Codes_t hl hm).mono ?_
  rintro v H3 ⟨hk3, hv⟩
  have hl3 := hl.kp hk3
  rcases hv with ⟨hw, rfl⟩ | ⟨hw, b, rfl, hb, ho⟩
  · simp
    refine (Whole_t hl3 hm).mono ?_
    rintro v H4 ⟨rfl, rfl⟩
    simp [hw, kEq, kEq1]
  · simp
    refine (Whole_t hl3 hm).mono ?_
    rintro v H4 ⟨rfl, rfl⟩
    simp [hw, kEq, kEq1]
    have hr : rightB l = true := by simp only [wholeB, Bool.and_eq_true] at hw; exact hw.1
    refine (rCodes_t hl3 hr).mono ?_
    rintro v H5 ⟨hk5, rfl, ho5⟩
    have ho' : Own H5 b (codes l) := (hk5.2 b (lt_cells ho)).trans ho
    have hlen : (codes l).length = l.length := by simp [codes]
    have hsame := same_t (c1 := l.length) (c2 := l.length) ho' ho5 (by rw [hlen]; omega)
    rw [hlen] at hsame
    try simp
    refine hsame.mono ?_
    rintro v H6 ⟨rfl, rfl⟩
    simp
end Go.Proofs.Ytpcpelbbeofenaa.K
namespace Go.Proofs.Ytpcpelbbeofenaa.huffWhole
open Go Go.Proofs Go.ChangeShapes Go.WideShapes Go.ChangeAt Go.RowKit
theorem own : ownKnob Try.prog.godebug = none := by kernel_rfl
theorem laid : laidOutB Try.prog = true := by kernel_rfl
set_option maxRecDepth 100000 in
theorem lifted (os : Os) (started : os.Started) (H : Type) (enc : TypeId × Value → H) :
    ReturnsInHanded {} Try.checked os 13 .any (Rows.huffWholeSpec.pre6 enc Try.prog Try.f13 Rows.huffWholeRow.domain false) (Rows.huffWholeSpec.post enc Try.prog Try.f13 false true false false) := by
  refine returnsInHanded_of_change (C := Try.checked) own started (by kernel_rfl) Try.func13
    (ChangeSpec.witness6 (enc := enc) (C := Try.checked) false ⟨#[], #[.slice none 0 0], []⟩ 8 (by kernel_rfl) (by kernel_rfl) (by kernel_rfl) (by kernel_rfl)) ?_
  intro W base args ds gs before hval0 hW hcnd _
  have hval : ∀ (j : Nat) t v, Try.f13.params[j]? = some t → args[j]? = some v → Value.okWide Try.prog W .any base t v := hval0
  have hW' := hW
  obtain ⟨p, q, hA0, hV, rfl, hfz, hnd⟩ := hW
  have hA : DataW.TrodAll enc Try.prog W 0 (fun _ => true) true Try.f13.params.toList args.toList ds p := hA0
  rw [Try.params13] at hA hval
  have hA1 := hA
  obtain ⟨v0, vs0, d0, ds0, p0, q0, hargs, rfl, rfl, h0, r0⟩ := trodAll_cons hA
  obtain ⟨rfl, rfl, rfl⟩ := trodAll_nil r0
  obtain rfl : args = #[v0] := by cases args; simp_all
  obtain ⟨rfl, rfl⟩ := trodVars_none hV
  have HR0 := K.HRel.nil (P := Try.prog) W
  have hn0 : ∀ b : Nat, (K.Heap.get [] b).own = false := fun b => rfl
  obtain ⟨a0, b0, ρ1, p1x, x0, HR1, hn1, w0⟩ := K.arg_slice (e := 3) (d := 6) (ks := [.int .i64]) Try.underlying47 (by kernel_rfl) (by kernel_rfl) (by decide) (hval 0 47 v0 rfl rfl) h0 HR0 hn0
  clear hA0 hval0
  refine (K.calls_of K.S_ok (K.lawWhole a0 b0 w0) HR1 (K.VL.cons x0 K.VL.nil)).mono fun e W' ⟨he, hb⟩ => ?_
  subst he
  exact ⟨_, rfl, K.post_of_below (pa := _) (pv := []) hW' (fun _ _ _ => (trodAll_cons_mk (shut_bool Try.underlying4 _) trodAll_mk0)) (fun sp hsp => K.trodAll_stays laid hb hA1 (by
      intro t ht
      replace ht : t ∈ ([47] : List TypeId) := ht
      simp only [List.mem_cons, List.not_mem_nil, or_false] at ht
      subst ht; exact ⟨by kernel_rfl, of_decide_eq_true (by kernel_rfl)⟩) (fun x hx => hW'.lt x (by simpa using hx)) (fun x hx => hsp x (by simpa using hx))) (fun _ _ => rfl) rfl
    hb (ok_one (by kernel_rfl) rfl (okWide_bool_mk Try.underlying4 _))⟩
theorem over : Rows.huffWholeRow.holds Try.pinned (OpenSpec.ofChange Rows.huffWholeSpec) :=
  OpenClaim.holds_of_wide 13 Try.f13 rfl rfl rfl rfl rfl rfl rfl ⟨rfl, rfl, rfl, rfl, rfl⟩ rfl rfl rfl rfl rfl (by kernel_rfl) Try.func13 (by kernel_rfl)
    (of_decide_eq_true (by kernel_rfl)) (by unfold Func.isWrapper; first | (rw [if_pos (by decide +kernel)]; kernel_rfl) | (rw [if_neg (by decide +kernel)]; exact ⟨rfl, rfl⟩))
    (fun os started H enc _ => lifted os started H enc)
theorem proved : Rows.HuffWholeSaid :=
  over
end Go.Proofs.Ytpcpelbbeofenaa.huffWhole
