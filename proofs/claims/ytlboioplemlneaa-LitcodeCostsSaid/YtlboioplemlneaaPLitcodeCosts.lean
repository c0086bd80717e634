/- The statement LitcodeCosts: any bytes are coded by the lengths of their counts, in as many bytes as their cost takes. Proved for all bytes. Condition: none. -/
import Derived.Test.YtlboioplemlneaaPD
import Derived.Test.YtlboioplemlneaaPF
import Derived.Test.YtlboioplemlneaaPE
import Derived.Test.YtlboioplemlneaaRows
import Derived.WalkKit
import Derived.ProofKit
import Derived.OpenShut
set_option maxRecDepth 100000
set_option maxHeartbeats 4000000
set_option linter.unusedVariables false
set_option linter.unusedSimpArgs false
namespace Go.Proofs.Ytlboioplemlneaa.K
open Go Go.Proofs
theorem lawCosts (kv : Value) (blk : Blk) (hk : ArgSl [.int .u8] 5 0 kv blk) : Wf S 11 [kv] [blk] fun v _ => v = .bool true := by
  obtain ⟨a, cc, b, rfl, hm, ha, hbr⟩ := arg_row hk
  refine w11 rfl rfl _ ?_
  simp [s11]
  refine (aw' blk).mono ?_
  rintro v H1 ⟨rfl, hblk⟩
  have hb := bvv_of ha hblk
  have hrow1 := hbr H1 hblk
  by_cases h3 : (200 : Int) < b.length
  · have h3' : 200 < b.length := by omega
    simp [h3, h3']
  have h3' : ¬ 200 < b.length := by omega
  by_cases h4 : b.length = 0
  · simp [h3, h3', h4]
  simp [h3, h3', h4]
  refine (Cof_t hb (by omega)).mono ?_
  rintro v H2 ⟨hk2, hA2⟩
  obtain ⟨a2, c2, rfl, hi2⟩ := hA2.ivI rfl
  have hcr := ofC_right (b := b) (by omega) (by omega)
  have hcl := ofC_len b
  try simp
  refine (Lengths_t hi2 hcr (by rw [ofC_sum]; omega)).mono ?_
  rintro v H3 ⟨hk3, N, l, ic, rfl, hN, hok⟩
  have hil := iv_ints hN
  have hll := hok.len
  have hrt : rightB l = true := by have := hok.whole; simp only [wholeB, Bool.and_eq_true] at this; exact this.1
  have hall := right_all hrt
  have hcost := Cost_t (c1 := c2) (c2 := (ofC b).length) (hi2.kp hk3) hil (by omega) (by omega)
  rw [hll] at hcost
  simp
  refine hcost.mono ?_
  rintro v H4 ⟨rfl, rfl⟩
  rw [if_pos ⟨hcr, Nat.le_refl _, hrt⟩]
  have hnb : NoBad (ofC b) l (ofC b).length := fun k _ hbad => by
    have := (hok.pos k).2 hbad.1
    have := hbad.2
    omega
  have hct : costT (ofC b) l = .tuple #[.int .i64 ((encB l b).length : Int), .bool true] := by
    unfold costT
    rw [if_pos hnb, enc_cost (fun k => (hall k).1)]; rfl
  rw [hct]
  have hb4 := (hb.kp hk2).kp hk3
  have hle := encB_le hall b
  have henc := Encode_t (c := (ofC b).length) (c2 := cc) hil (by omega) hb4 (by omega)
  rw [hll] at henc
  simp
  refine henc.mono ?_
  rintro v H5 ⟨hk5, h⟩
  rcases h with ⟨hw, hokb, s, rfl, hp⟩ | ⟨hno, _⟩
  · have hpl := packs_len hp
    have hdec := Decode_t (c := (ofC b).length) (s := s) (hil.kp hk5) (by omega) (by omega) b.length
    rw [hll] at hdec
    simp
    refine hdec.mono ?_
    rintro v H6 ⟨hk6, hv⟩
    rw [if_pos ⟨hw, by omega, by omega⟩, Int.toNat_natCast, decF_enc hw hokb hp] at hv
    simp only at hv
    obtain ⟨w, rfl, hA⟩ := hv
    obtain ⟨a5, c5, rfl, hrow5⟩ := hA.row
    have hb5 := fun K => s_b2s (S := S) (e := []) (K := K) (c := c5) hrow5
    have hb6 := fun K => s_b2s (S := S) (e := []) (K := K) (c := cc) (kRow_kp (kRow_kp (kRow_kp (kRow_kp hrow1 hk2) hk3) hk5) hk6)
    have w1 : IntKind.i64.wrap (((encB l b).length : Int) + 7) = (((encB l b).length + 7 : Nat) : Int) := by rw [wi (by omega) (by omega)]; omega
    have w1' : IntKind.i64.wrap (((encB l b).length : Int) + 7) = ((encB l b).length : Int) + 7 := wi (by omega) (by omega)
    have w2 : IntKind.i64.wrap ((((encB l b).length : Int) + 7) / 8) = (s.length : Int) := by rw [wi (by omega) (by omega)]; omega
    have w3 : (((encB l b).length : Int) + 7).tdiv 8 = (((encB l b).length : Int) + 7) / 8 := Int.tdiv_eq_ediv_of_nonneg (by omega)
    simp [hb5, hb6, s_eql, ofL_size, w1', w3, w2]
  · exact absurd ⟨hok.whole, len_ok hok⟩ hno
end Go.Proofs.Ytlboioplemlneaa.K
namespace Go.Proofs.Ytlboioplemlneaa.litcodeCosts
open Go Go.Proofs Go.ChangeShapes Go.WideShapes Go.ChangeAt Go.RowKit
theorem own : ownKnob Try.prog.godebug = none := by kernel_rfl
theorem laid : laidOutB Try.prog = true := by kernel_rfl
set_option maxRecDepth 100000 in
theorem lifted (os : Os) (started : os.Started) (H : Type) (enc : TypeId × Value → H) :
    ReturnsInHanded {} Try.checked os 11 .any (Rows.litcodeCostsSpec.pre6 enc Try.prog Try.f11 Rows.litcodeCostsRow.domain false) (Rows.litcodeCostsSpec.post enc Try.prog Try.f11 false true false false) := by
  refine returnsInHanded_of_change (C := Try.checked) own started (by kernel_rfl) Try.func11
    (ChangeSpec.witness6 (enc := enc) (C := Try.checked) false ⟨#[], #[.slice none 0 0], []⟩ 8 (by kernel_rfl) (by kernel_rfl) (by kernel_rfl) (by kernel_rfl)) ?_
  intro W base args ds gs before hval0 hW hcnd _
  have hval : ∀ (j : Nat) t v, Try.f11.params[j]? = some t → args[j]? = some v → Value.okWide Try.prog W .any base t v := hval0
  have hW' := hW
  obtain ⟨p, q, hA0, hV, rfl, hfz, hnd⟩ := hW
  have hA : DataW.TrodAll enc Try.prog W 0 (fun _ => true) true Try.f11.params.toList args.toList ds p := hA0
  rw [Try.params11] at hA hval
  have hA1 := hA
  obtain ⟨v0, vs0, d0, ds0, p0, q0, hargs, rfl, rfl, h0, r0⟩ := trodAll_cons hA
  obtain ⟨rfl, rfl, rfl⟩ := trodAll_nil r0
  obtain rfl : args = #[v0] := by cases args; simp_all
  obtain ⟨rfl, rfl⟩ := trodVars_none hV
  have HR0 := K.HRel.nil (P := Try.prog) W
  have hn0 : ∀ b : Nat, (K.Heap.get [] b).own = false := fun b => rfl
  obtain ⟨a0, b0, ρ1, p1x, x0, HR1, hn1, w0⟩ := K.arg_slice (e := 5) (d := 6) (ks := [.int .u8]) Try.underlying40 (by kernel_rfl) (by kernel_rfl) (by decide) (hval 0 40 v0 rfl rfl) h0 HR0 hn0
  clear hA0 hval0
  refine (K.calls_of K.S_ok (K.lawCosts a0 b0 w0) HR1 (K.VL.cons x0 K.VL.nil)).mono fun e W' ⟨he, hb⟩ => ?_
  subst he
  exact ⟨_, rfl, K.post_of_below (pa := _) (pv := []) hW' (fun _ _ _ => (trodAll_cons_mk (shut_bool Try.underlying4 _) trodAll_mk0)) (fun sp hsp => K.trodAll_stays laid hb hA1 (by
      intro t ht
      replace ht : t ∈ ([40] : List TypeId) := ht
      simp only [List.mem_cons, List.not_mem_nil, or_false] at ht
      subst ht; exact ⟨by kernel_rfl, of_decide_eq_true (by kernel_rfl)⟩) (fun x hx => hW'.lt x (by simpa using hx)) (fun x hx => hsp x (by simpa using hx))) (fun _ _ => rfl) rfl
    hb (ok_one (by kernel_rfl) rfl (okWide_bool_mk Try.underlying4 _))⟩
theorem over : Rows.litcodeCostsRow.holds Try.pinned (OpenSpec.ofChange Rows.litcodeCostsSpec) :=
  OpenClaim.holds_of_wide 11 Try.f11 rfl rfl rfl rfl rfl rfl rfl ⟨rfl, rfl, rfl, rfl, rfl⟩ rfl rfl rfl rfl rfl (by kernel_rfl) Try.func11 (by kernel_rfl)
    (of_decide_eq_true (by kernel_rfl)) (by unfold Func.isWrapper; first | (rw [if_pos (by decide +kernel)]; kernel_rfl) | (rw [if_neg (by decide +kernel)]; exact ⟨rfl, rfl⟩))
    (fun os started H enc _ => lifted os started H enc)
theorem proved : Rows.LitcodeCostsSaid :=
  over
end Go.Proofs.Ytlboioplemlneaa.litcodeCosts
