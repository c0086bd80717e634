/- The statement LitcodeBack: bytes in code, or that they have none, are the document's, and are decoded as they were. Proved for every list of lengths and all bytes. Condition: none. -/
import Derived.Test.YtlboioplemlneaaPBitsV
import Derived.Test.YtlboioplemlneaaRows
import Derived.WalkKit
import Derived.ProofKit
import Derived.OpenShut
set_option maxRecDepth 100000
set_option maxHeartbeats 4000000
set_option linter.unusedVariables false
set_option linter.unusedSimpArgs false
namespace Go.Proofs.Ytlboioplemlneaa.K
open Go Go.Proofs
theorem lawBack (kv : Value) (blk : Blk) (kv2 : Value) (blk2 : Blk) (hk : ArgSl [.int .i64] 3 0 kv blk) (hk2 : ArgSl [.int .u8] 5 1 kv2 blk2) : Wf S 6 [kv, kv2] [blk, blk2] fun v _ => v = .bool true := by
  obtain ⟨a, c, l, rfl, hm, _, ha⟩ := arg_ints hk
  obtain ⟨a2, c2, b, rfl, hm2, ha2, har⟩ := arg_row hk2
  refine w6 rfl rfl _ _ ?_
  simp [s6]
  refine (aw2' blk blk2).mono ?_
  rintro v H1 ⟨rfl, hblk, hblk2⟩
  have hl := iv_of ha hblk
  have hb := bvv_of ha2 hblk2
  by_cases h3 : (256 : Int) < l.length
  · simp [h3]
  by_cases h4 : (100 : Int) < b.length
  · simp [h3, h4]
  have hbr : ∀ H : Heap, kRow H 5 1 b.length a2 = some (bvs b) → ∀ K : Kv, run S (.b2s 5 (.c (.slice a2 b.length c2))) [] H K = K (.string (ofL b)) H := fun H h K => s_b2s h
  have hrow1 := har H1 hblk2
  simp [h3, h4]
  refine (Encode_t (c := c) (c2 := c2) hl hm hb (by omega)).mono ?_
  rintro v H2 ⟨hk2, h⟩
  have hl2 := hl.kp hk2
  have hb2 := hb.kp hk2
  rcases h with ⟨hw, hok, s', rfl, hp⟩ | ⟨hno, rfl⟩
  · have hr : rightB l = true := by simp only [wholeB, Bool.and_eq_true] at hw; exact hw.1
    have hall := right_all hr
    simp
    refine (rWhole_t hl2 hm).mono ?_
    rintro v H3 ⟨rfl, rfl⟩
    simp [hw]
    refine (rEncode_t (c := c) (c2 := c2) hl2 hr hb2 (by omega)).mono ?_
    rintro v H4 ⟨hk4, h⟩
    rcases h with ⟨_, s2, rfl, hp2⟩ | ⟨hno, _⟩
    · obtain rfl := packs_uniq hp hp2
      have hle := encB_le hall b
      have hpl := packs_len hp
      simp [kEq, kEq1, s_neq]
      refine (Decode_t (c := c) (s := s') (hl2.kp hk4) hm (by omega) b.length).mono ?_
      rintro v H5 ⟨hk5, hv⟩
      rw [if_pos ⟨hw, by omega, by omega⟩, Int.toNat_natCast, decF_enc hw hok hp] at hv
      simp only at hv
      obtain ⟨w, rfl, hA⟩ := hv
      obtain ⟨a5, c5, rfl, hrow5⟩ := hA.row
      have hb5 := fun K => s_b2s (S := S) (e := []) (K := K) (c := c5) hrow5
      have hb6 := hbr H5 (kRow_kp (kRow_kp (kRow_kp hrow1 hk2) hk4) hk5)
      simp [hb5, hb6, s_eql]
    · exact absurd hok hno
  · simp
    refine (rWhole_t hl2 hm).mono ?_
    rintro v H3 ⟨rfl, rfl⟩
    by_cases hw : wholeB l = true
    · have hr : rightB l = true := by simp only [wholeB, Bool.and_eq_true] at hw; exact hw.1
      have hno' : ¬ okB l b := fun h => hno ⟨hw, h⟩
      simp [hw]
      refine (rEncode_t (c := c) (c2 := c2) hl2 hr hb2 (by omega)).mono ?_
      rintro v H4 ⟨hk4, h⟩
      rcases h with ⟨hok, _⟩ | ⟨_, rfl⟩
      · exact absurd hok hno'
      · simp [kEq, kEq1, s_neq]
    · simp [hw]
      refine (Table_no hl2 hm hw).mono ?_
      rintro v H4 ⟨rfl, rfl⟩
      simp [hbr H4 (kRow_kp hrow1 hk2)]
      refine (Decode_t (c := c) (s := b) hl2 hm (by omega) 1).mono ?_
      rintro v H5 ⟨hk5, hv⟩
      rw [if_neg (fun h => hw h.1)] at hv
      subst hv
      simp [bs_ofL, s_eql]
end Go.Proofs.Ytlboioplemlneaa.K
namespace Go.Proofs.Ytlboioplemlneaa.litcodeBack
open Go Go.Proofs Go.ChangeShapes Go.WideShapes Go.ChangeAt Go.RowKit
theorem own : ownKnob Try.prog.godebug = none := by kernel_rfl
theorem laid : laidOutB Try.prog = true := by kernel_rfl
set_option maxRecDepth 100000 in
theorem lifted (os : Os) (started : os.Started) (H : Type) (enc : TypeId × Value → H) :
    ReturnsInHanded {} Try.checked os 6 .any (Rows.litcodeBackSpec.pre6 enc Try.prog Try.f6 Rows.litcodeBackRow.domain false) (Rows.litcodeBackSpec.post enc Try.prog Try.f6 false true false false) := by
  refine returnsInHanded_of_change (C := Try.checked) own started (by kernel_rfl) Try.func6
    (ChangeSpec.witness6 (enc := enc) (C := Try.checked) false ⟨#[], #[.slice none 0 0, .slice none 0 0], []⟩ 8 (by kernel_rfl) (by kernel_rfl) (by kernel_rfl) (by kernel_rfl)) ?_
  intro W base args ds gs before hval0 hW hcnd _
  have hval : ∀ (j : Nat) t v, Try.f6.params[j]? = some t → args[j]? = some v → Value.okWide Try.prog W .any base t v := hval0
  have hW' := hW
  obtain ⟨p, q, hA0, hV, rfl, hfz, hnd⟩ := hW
  have hA : DataW.TrodAll enc Try.prog W 0 (fun _ => true) true Try.f6.params.toList args.toList ds p := hA0
  rw [Try.params6] at hA hval
  have hA1 := hA
  obtain ⟨v0, vs0, d0, ds0, p0, q0, hargs, rfl, rfl, h0, r0⟩ := trodAll_cons hA
  obtain ⟨v1, vs1, d1, ds1, p1, q1, rfl, rfl, rfl, h1, r1⟩ := trodAll_cons r0
  obtain ⟨rfl, rfl, rfl⟩ := trodAll_nil r1
  obtain rfl : args = #[v0, v1] := by cases args; simp_all
  obtain ⟨rfl, rfl⟩ := trodVars_none hV
  have HR0 := K.HRel.nil (P := Try.prog) W
  have hn0 : ∀ b : Nat, (K.Heap.get [] b).own = false := fun b => rfl
  obtain ⟨a0, b0, ρ1, p1x, x0, HR1, hn1, w0⟩ := K.arg_slice (e := 3) (d := 6) (ks := [.int .i64]) Try.underlying38 (by kernel_rfl) (by kernel_rfl) (by decide) (hval 0 38 v0 rfl rfl) h0 HR0 hn0
  obtain ⟨a1, b1, ρ2, p2x, x1, HR2, hn2, w1⟩ := K.arg_slice (e := 5) (d := 6) (ks := [.int .u8]) Try.underlying40 (by kernel_rfl) (by kernel_rfl) (by decide) (hval 1 40 v1 rfl rfl) h1 HR1 hn1
  clear hA0 hval0
  refine (K.calls_of K.S_ok (K.lawBack a0 b0 a1 b1 w0 w1) HR2 (K.VL.cons (x0.mono p2x) (K.VL.cons x1 K.VL.nil))).mono fun e W' ⟨he, hb⟩ => ?_
  subst he
  exact ⟨_, rfl, K.post_of_below (pa := _) (pv := []) hW' (fun _ _ _ => (trodAll_cons_mk (shut_bool Try.underlying4 _) trodAll_mk0)) (fun sp hsp => K.trodAll_stays laid hb hA1 (by
      intro t ht
      replace ht : t ∈ ([38, 40] : List TypeId) := ht
      simp only [List.mem_cons, List.not_mem_nil, or_false] at ht
      rcases ht with rfl | rfl <;> exact ⟨by kernel_rfl, of_decide_eq_true (by kernel_rfl)⟩) (fun x hx => hW'.lt x (by simpa using hx)) (fun x hx => hsp x (by simpa using hx))) (fun _ _ => rfl) rfl
    hb (ok_one (by kernel_rfl) rfl (okWide_bool_mk Try.underlying4 _))⟩
theorem over : Rows.litcodeBackRow.holds Try.pinned (OpenSpec.ofChange Rows.litcodeBackSpec) :=
  OpenClaim.holds_of_wide 6 Try.f6 rfl rfl rfl rfl rfl rfl rfl ⟨rfl, rfl, rfl, rfl, rfl⟩ rfl rfl rfl rfl rfl (by kernel_rfl) Try.func6 (by kernel_rfl)
    (of_decide_eq_true (by kernel_rfl)) (by unfold Func.isWrapper; first | (rw [if_pos (by decide +kernel)]; kernel_rfl) | (rw [if_neg (by decide +kernel)]; exact ⟨rfl, rfl⟩))
    (fun os started H enc _ => lifted os started H enc)
theorem proved : Rows.LitcodeBackSaid :=
  over
end Go.Proofs.Ytlboioplemlneaa.litcodeBack
