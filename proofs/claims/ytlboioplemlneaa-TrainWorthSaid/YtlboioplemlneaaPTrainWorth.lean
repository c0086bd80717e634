/- The statement TrainWorth: what any text is worth is the document's. Proved for all records and texts. Condition: none. -/
import Derived.Test.YtlboioplemlneaaPF
import Derived.Test.YtlboioplemlneaaRows
import Derived.WalkKit
import Derived.ProofKit
import Derived.OpenShut
set_option maxRecDepth 100000
set_option maxHeartbeats 4000000
set_option linter.unusedVariables false
set_option linter.unusedSimpArgs false
namespace Go.Proofs.Ytlboioplemlneaa.K
open Go Go.Proofs
theorem lawWorth (kv : Value) (blk : Blk) (st : ByteArray) (hk : ArgSl [.str] 9 0 kv blk) (hst : st.size ≤ maxLen) : Wf S 8 [kv, .string st] [blk] fun v _ => v = .bool true := by
  obtain ⟨l, hn, hx, hsi⟩ := arg_texts hk
  obtain ⟨s, rfl⟩ : ∃ s, st = ofL s := ⟨_, (ofL_data st).symm⟩
  rw [ofL_size] at hst
  refine w8 rfl rfl _ _ ?_
  simp [s8]
  refine (awT' blk).mono ?_
  rintro v H1 ⟨rfl, hblk⟩
  have hl := hsi H1 hblk
  simp
  refine (small_t hl hn hx (by omega) (by omega)).mono ?_
  rintro v H2 ⟨rfl, t, rfl, ht⟩
  cases t with
  | false => simp
  | true =>
    obtain ⟨h1, h2⟩ := ht rfl
    by_cases h3 : (60 : Int) < s.length
    · have h3' : 60 < s.length := by omega
      simp [ofL_size, h3, h3']
    · have h3' : ¬ 60 < s.length := by omega
      simp [ofL_size, h3, h3']
      refine (tWorth_t hl (by omega) (by omega)).mono ?_
      rintro v H3 ⟨hk3, rfl⟩
      have hl3 := hl.kp hk3
      try simp
      refine (rBrought_t hl3 (by omega)).mono ?_
      rintro v H4 ⟨hk4, hA⟩
      obtain ⟨a4, c4, rfl, hsv4⟩ := hA.sv rfl
      have hbr := brL_len (l := l)
      have hw := rWorth_t (H := H4) (a2 := none) (c2 := 0) (rs := brL l) (c := c4) (tk := []) (s := s) hsv4 (fun hp => by simp at hp) hbr.1 (fun r hr => by have := hbr.2 r hr; omega) (by simp) (by simp) (by omega)
      try simp
      refine hw.mono ?_
      rintro v H5 ⟨rfl, rfl⟩
      try simp
end Go.Proofs.Ytlboioplemlneaa.K
namespace Go.Proofs.Ytlboioplemlneaa.trainWorth
open Go Go.Proofs Go.ChangeShapes Go.WideShapes Go.ChangeAt Go.RowKit
theorem own : ownKnob Try.prog.godebug = none := by kernel_rfl
theorem laid : laidOutB Try.prog = true := by kernel_rfl
set_option maxRecDepth 100000 in
theorem lifted (os : Os) (started : os.Started) (H : Type) (enc : TypeId × Value → H) :
    ReturnsInHanded {} Try.checked os 8 .any (Rows.trainWorthSpec.pre6 enc Try.prog Try.f8 Rows.trainWorthRow.domain false) (Rows.trainWorthSpec.post enc Try.prog Try.f8 false true false false) := by
  refine returnsInHanded_of_change (C := Try.checked) own started (by kernel_rfl) Try.func8
    (ChangeSpec.witness6 (enc := enc) (C := Try.checked) false ⟨#[], #[.slice none 0 0, .string ⟨#[]⟩], []⟩ 8 (by kernel_rfl) (by kernel_rfl) (by kernel_rfl) (by kernel_rfl)) ?_
  intro W base args ds gs before hval0 hW hcnd _
  have hval : ∀ (j : Nat) t v, Try.f8.params[j]? = some t → args[j]? = some v → Value.okWide Try.prog W .any base t v := hval0
  have hW' := hW
  obtain ⟨p, q, hA0, hV, rfl, hfz, hnd⟩ := hW
  have hA : DataW.TrodAll enc Try.prog W 0 (fun _ => true) true Try.f8.params.toList args.toList ds p := hA0
  rw [Try.params8] at hA hval
  have hA1 := hA
  obtain ⟨v0, vs0, d0, ds0, p0, q0, hargs, rfl, rfl, h0, r0⟩ := trodAll_cons hA
  obtain ⟨v1, vs1, d1, ds1, p1, q1, rfl, rfl, rfl, h1, r1⟩ := trodAll_cons r0
  obtain ⟨rfl, rfl, rfl⟩ := trodAll_nil r1
  obtain rfl : args = #[v0, v1] := by cases args; simp_all
  obtain ⟨rfl, rfl⟩ := trodVars_none hV
  have HR0 := K.HRel.nil (P := Try.prog) W
  have hn0 : ∀ b : Nat, (K.Heap.get [] b).own = false := fun b => rfl
  obtain ⟨a0, b0, ρ1, p1x, x0, HR1, hn1, w0⟩ := K.arg_slice (e := 9) (d := 6) (ks := [.str]) Try.underlying48 (by kernel_rfl) (by kernel_rfl) (by decide) (hval 0 48 v0 rfl rfl) h0 HR0 hn0
  obtain ⟨a1, rfl, w1⟩ := K.arg_str Try.underlying9 (hval 1 9 v1 rfl rfl) h1
  clear hA0 hval0
  refine (K.calls_of K.S_ok (K.lawWorth a0 b0 a1 w0 w1) HR1 (K.VL.cons x0 (K.VL.cons (K.VRel.string a1) K.VL.nil))).mono fun e W' ⟨he, hb⟩ => ?_
  subst he
  exact ⟨_, rfl, K.post_of_below (pa := _) (pv := []) hW' (fun _ _ _ => (trodAll_cons_mk (shut_bool Try.underlying4 _) trodAll_mk0)) (fun sp hsp => K.trodAll_stays laid hb hA1 (by
      intro t ht
      replace ht : t ∈ ([48, 9] : List TypeId) := ht
      simp only [List.mem_cons, List.not_mem_nil, or_false] at ht
      rcases ht with rfl | rfl <;> exact ⟨by kernel_rfl, of_decide_eq_true (by kernel_rfl)⟩) (fun x hx => hW'.lt x (by simpa using hx)) (fun x hx => hsp x (by simpa using hx))) (fun _ _ => rfl) rfl
    hb (ok_one (by kernel_rfl) rfl (okWide_bool_mk Try.underlying4 _))⟩
theorem over : Rows.trainWorthRow.holds Try.pinned (OpenSpec.ofChange Rows.trainWorthSpec) :=
  OpenClaim.holds_of_wide 8 Try.f8 rfl rfl rfl rfl rfl rfl rfl ⟨rfl, rfl, rfl, rfl, rfl⟩ rfl rfl rfl rfl rfl (by kernel_rfl) Try.func8 (by kernel_rfl)
    (of_decide_eq_true (by kernel_rfl)) (by unfold Func.isWrapper; first | (rw [if_pos (by decide +kernel)]; kernel_rfl) | (rw [if_neg (by decide +kernel)]; exact ⟨rfl, rfl⟩))
    (fun os started H enc _ => lifted os started H enc)
theorem proved : Rows.TrainWorthSaid :=
  over
end Go.Proofs.Ytlboioplemlneaa.trainWorth
