/- The statement LitsFew: one literal less than there are is too few; a section that is cut is none. Proved for every text and every cut. Condition: none. -/
import Derived.Test.YtlboioplemlneaaPI
import Derived.Test.YtlboioplemlneaaRows
import Derived.WalkKit
import Derived.ProofKit
import Derived.OpenShut
set_option maxRecDepth 100000
set_option maxHeartbeats 4000000
set_option linter.unusedVariables false
set_option linter.unusedSimpArgs false
namespace Go.Proofs.Ytlboioplemlneaa.K
open Go Go.Proofs
theorem aw15 : (evFn S 60 46 [] []).map (·.1) = some (.bool true) := by kernel_rfl
theorem encOk_ne {s t : Bytes} (h : EncOk s t) : 0 < t.length := by
  cases t with
  | nil => have := h.dec; simp [litD] at this
  | cons x t => simp
theorem lawFew (st : ByteArray) (n : Int) (hst : st.size ≤ maxLen) (hnw : (Lit.int .u16 n).wf = true) : Wf S 12 [.string st, .int .u16 n] [] fun v _ => v = .bool true := by
  obtain ⟨s, rfl⟩ : ∃ s, st = ofL s := ⟨_, (ofL_data st).symm⟩
  have hnb : 0 ≤ n ∧ n ≤ 65535 := by
    have := hnw
    simp [Lit.wf, IntKind.signed, IntKind.bits, IntKind.min, IntKind.max] at this
    omega
  refine w12 rfl rfl _ _ ?_
  simp [s12]
  refine (run_of aw15).mono ?_
  rintro v H1 rfl
  by_cases h4 : (200 : Int) < s.length
  · simp [h4, ofL_size]
  by_cases h5 : s.length = 0
  · simp [h4, h5, ofL_size]
  simp [h4, h5, ofL_size]
  refine (LEncode_t (s := s) (by omega)).mono ?_
  rintro v H2 ⟨hk2, t, rfl, hok⟩
  have htl := hok.le
  have ht0 := encOk_ne hok
  have hgl := grp_len10 (v := s.length) (by omega)
  have hrl : (rawT s).length ≤ 300 := by simp [rawT]; omega
  obtain ⟨m, hm⟩ : ∃ m, m = s.length - 1 := ⟨_, rfl⟩
  have w1 : IntKind.i64.wrap ((s.length : Int) - 1) = (m : Int) := by rw [wi (by omega) (by omega)]; omega
  try simp
  refine (curNew_t t).mono ?_
  rintro v H3 ⟨rfl, rfl⟩
  have hr : Rd (H2.push (RdB t false)) H2.next t false := get_last
  have hd := LDecode_t hr (by omega) (m : Int)
  have hfew := litD_few hok.dec
  rw [show ((s.length : Int) - 1) = (m : Int) by omega] at hfew
  rw [hfew] at hd
  generalize H2.push (RdB t false) = H3 at *
  simp [ofL_size, w1]
  refine hd.mono ?_
  rintro v H4 rfl
  obtain ⟨c, rfl⟩ : ∃ c : Nat, n = (c : Int) := ⟨n.toNat, by omega⟩
  have w2 : IntKind.i64.wrap (c : Int) = (c : Int) := wi (by omega) (by omega)
  obtain ⟨j, hj⟩ : ∃ j, j = c % t.length := ⟨_, rfl⟩
  have hjl : j < t.length := hj ▸ Nat.mod_lt _ ht0
  have w3 : (c : Int).tmod (t.length : Int) = (j : Int) := by rw [Int.tmod_eq_emod_of_nonneg (by omega), hj]; rfl
  have w4 : IntKind.i64.wrap (j : Int) = (j : Int) := wi (by omega) (by omega)
  have hup : ∀ {K : Kv} {H : Heap}, run S (.slS (.c (.string (ofL t))) none (some (.c (.int .i64 (j : Int))))) [] H K = K (.string (ofL (t.take j))) H := fun {K} {H} => by
    rw [s_upto, if_pos ⟨by omega, by omega⟩, Int.toNat_natCast]
  have ht0' : ¬ (t.length : Int) = 0 := by omega
  simp [ofL_size, w2]
  have hne : ¬ ofL t = ByteArray.empty := fun e => by
    have := congrArg ByteArray.size e
    rw [ofL_size] at this
    have h0 : ByteArray.empty.size = 0 := rfl
    omega
  rw [if_neg hne, w3]
  simp only [oV_some]
  rw [hup]
  refine (curNew_t (t.take j)).mono ?_
  rintro v H5 ⟨rfl, rfl⟩
  have hr2 : Rd (H4.push (RdB (t.take j) false)) H4.next (t.take j) false := get_last
  have hd2 := LDecode_t hr2 (by rw [List.length_take]; omega) (s.length : Int)
  rw [litD_cut hok.dec hjl] at hd2
  refine Wf.mono hd2 ?_
  rintro v H6 rfl
  simp
end Go.Proofs.Ytlboioplemlneaa.K
namespace Go.Proofs.Ytlboioplemlneaa.litsFew
open Go Go.Proofs Go.ChangeShapes Go.WideShapes Go.ChangeAt Go.RowKit
theorem own : ownKnob Try.prog.godebug = none := by kernel_rfl
theorem laid : laidOutB Try.prog = true := by kernel_rfl
set_option maxRecDepth 100000 in
theorem lifted (os : Os) (started : os.Started) (H : Type) (enc : TypeId × Value → H) :
    ReturnsInHanded {} Try.checked os 12 .any (Rows.litsFewSpec.pre6 enc Try.prog Try.f12 Rows.litsFewRow.domain false) (Rows.litsFewSpec.post enc Try.prog Try.f12 false true false false) := by
  refine returnsInHanded_of_change (C := Try.checked) own started (by kernel_rfl) Try.func12
    (ChangeSpec.witness6 (enc := enc) (C := Try.checked) false ⟨#[], #[.string ⟨#[]⟩, .int .u16 0], []⟩ 8 (by kernel_rfl) (by kernel_rfl) (by kernel_rfl) (by kernel_rfl)) ?_
  intro W base args ds gs before hval0 hW hcnd _
  have hval : ∀ (j : Nat) t v, Try.f12.params[j]? = some t → args[j]? = some v → Value.okWide Try.prog W .any base t v := hval0
  have hW' := hW
  obtain ⟨p, q, hA0, hV, rfl, hfz, hnd⟩ := hW
  have hA : DataW.TrodAll enc Try.prog W 0 (fun _ => true) true Try.f12.params.toList args.toList ds p := hA0
  rw [Try.params12] at hA hval
  have hA1 := hA
  obtain ⟨v0, vs0, d0, ds0, p0, q0, hargs, rfl, rfl, h0, r0⟩ := trodAll_cons hA
  obtain ⟨v1, vs1, d1, ds1, p1, q1, rfl, rfl, rfl, h1, r1⟩ := trodAll_cons r0
  obtain ⟨rfl, rfl, rfl⟩ := trodAll_nil r1
  obtain rfl : args = #[v0, v1] := by cases args; simp_all
  obtain ⟨rfl, rfl⟩ := trodVars_none hV
  have HR0 := K.HRel.nil (P := Try.prog) W
  have hn0 : ∀ b : Nat, (K.Heap.get [] b).own = false := fun b => rfl
  obtain ⟨a0, rfl, w0⟩ := K.arg_str Try.underlying9 (hval 0 9 v0 rfl rfl) h0
  obtain ⟨a1, rfl, _, _, w1⟩ := open_int Try.underlying65 (hval 1 65 v1 rfl rfl) h1
  clear hA0 hval0
  refine (K.calls_of K.S_ok (K.lawFew a0 a1 w0 w1) HR0 (K.VL.cons (K.VRel.string a0) (K.VL.cons (K.VRel.int .u16 a1) K.VL.nil))).mono fun e W' ⟨he, hb⟩ => ?_
  subst he
  exact ⟨_, rfl, K.post_of_below (pa := _) (pv := []) hW' (fun _ _ _ => (trodAll_cons_mk (shut_bool Try.underlying4 _) trodAll_mk0)) (fun sp hsp => K.trodAll_stays laid hb hA1 (by
      intro t ht
      replace ht : t ∈ ([9, 65] : List TypeId) := ht
      simp only [List.mem_cons, List.not_mem_nil, or_false] at ht
      rcases ht with rfl | rfl <;> exact ⟨by kernel_rfl, of_decide_eq_true (by kernel_rfl)⟩) (fun x hx => hW'.lt x (by simpa using hx)) (fun x hx => hsp x (by simpa using hx))) (fun _ _ => rfl) rfl
    hb (ok_one (by kernel_rfl) rfl (okWide_bool_mk Try.underlying4 _))⟩
theorem over : Rows.litsFewRow.holds Try.pinned (OpenSpec.ofChange Rows.litsFewSpec) :=
  OpenClaim.holds_of_wide 12 Try.f12 rfl rfl rfl rfl rfl rfl rfl ⟨rfl, rfl, rfl, rfl, rfl⟩ rfl rfl rfl rfl rfl (by kernel_rfl) Try.func12 (by kernel_rfl)
    (of_decide_eq_true (by kernel_rfl)) (by unfold Func.isWrapper; first | (rw [if_pos (by decide +kernel)]; kernel_rfl) | (rw [if_neg (by decide +kernel)]; exact ⟨rfl, rfl⟩))
    (fun os started H enc _ => lifted os started H enc)
theorem proved : Rows.LitsFewSaid :=
  over
end Go.Proofs.Ytlboioplemlneaa.litsFew
