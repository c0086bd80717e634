/- The statement PolicyBases: how far a log may be truncated. Proved for every three numbers: the program's Base and the document's are the same number, and it is within its bounds. Condition: none. -/
import Derived.Test.YtccjanieihlpcaaKPolSh
import Derived.Test.YtccjanieihlpcaaKSimp
import Derived.Test.YtccjanieihlpcaaRows
import Derived.WalkKit
import Derived.ProofKit
import Derived.OpenShut
set_option maxRecDepth 100000
set_option linter.unusedVariables false
set_option linter.unusedSimpArgs false
namespace Go.Proofs.Ytccjanieihlpcaa.K
open Go Go.Proofs
def S : Sys := ⟨F, M, fun _ => none⟩
theorem S_ok : SysOK Go.Proofs.Try.prog S := ⟨M_ok, by kernel_rfl, F_ok, fun f p h => by cases h⟩
theorem wi {x : Int} (h1 : -9223372036854775808 ≤ x) (h2 : x ≤ 9223372036854775807) : IntKind.i64.wrap x = x := by
  rw [IntKind.wrap_i64]; omega

theorem wf_le {a : Int} (w : (Lit.int .i64 a).wf = true) : a ≤ 9223372036854775807 := by
  simp only [Lit.wf, Bool.and_eq_true, decide_eq_true_eq] at w
  have h : IntKind.i64.max = 9223372036854775807 := by decide
  omega

theorem aw : (evFn S 40 24 [] []).map (·.1) = some (.bool true) := by kernel_rfl
theorem aw' : Wf S 24 [] [] fun v _ => v = .bool true := by
  have h := aw
  cases hq : evFn S 40 24 [] [] with
  | none => rw [hq] at h; simp at h
  | some p => rw [hq] at h; exact ⟨40, p.1, p.2, hq, by simpa using h⟩

def base (a b c : Int) : Int := min (max a 0) (max (max b 0 - max c 0) 0)
theorem Base_runs (a b c : Int) (H : Heap) (hb : b ≤ 9223372036854775807) (hc : c ≤ 9223372036854775807) : Wf S 36 [.int .i64 a, .int .i64 b, .int .i64 c] H fun v H' => H' = H ∧ v = .int .i64 (base a b c) := by
  refine Wf_sh rfl rfl ((h36 S _ _ _ H _).mpr ?_)
  have hw : IntKind.i64.wrap (max b 0 - max c 0) = max b 0 - max c 0 := wi (by omega) (by omega)
  simp [s36, hw, base]
theorem RBase_runs (a b c : Int) (H : Heap) (ha : a ≤ 9223372036854775807) (hb : b ≤ 9223372036854775807) (hc : c ≤ 9223372036854775807) : Wf S 37 [.int .i64 a, .int .i64 b, .int .i64 c] H fun v H' => H' = H ∧ v = .int .i64 (base a b c) := by
  refine Wf_sh rfl rfl ((h37 S _ _ _ H _).mpr ?_)
  by_cases h1 : a ≤ 0
  · simp [s37, h1, base]; omega
  by_cases h2 : b ≤ 0
  · simp [s37, h1, h2, base]; omega
  by_cases h3 : b ≤ c
  · simp [s37, h1, h2, h3, base]; omega
  by_cases h4 : c < 0
  · have hw : IntKind.i64.wrap b = b := wi (by omega) (by omega)
    by_cases h5 : b < a
    · simp [s37, h1, h2, h3, h4, hw, h5, base]; omega
    · simp [s37, h1, h2, h3, h4, hw, h5, base]; omega
  · have hw : IntKind.i64.wrap (b - c) = b - c := wi (by omega) (by omega)
    by_cases h5 : b - c < a
    · simp [s37, h1, h2, h3, h4, hw, h5, base]; omega
    · simp [s37, h1, h2, h3, h4, hw, h5, base]; omega

theorem law (a b c : Int) (ha : a ≤ 9223372036854775807) (hb : b ≤ 9223372036854775807) (hc : c ≤ 9223372036854775807) : Wf S 7 [.int .i64 a, .int .i64 b, .int .i64 c] [] fun v _ => v = .bool true := by
  refine Wf_sh rfl rfl ((h7 S _ _ _ [] _).mpr ?_)
  simp [s7]
  refine aw'.mono ?_
  rintro v H1 rfl
  simp
  refine (Base_runs a b c H1 hb hc).mono ?_
  rintro v H2 ⟨rfl, rfl⟩
  refine (RBase_runs a b c H2 ha hb hc).mono ?_
  rintro v H2 ⟨rfl, rfl⟩
  have e1 : 0 ≤ base a b c := by unfold base; omega
  have e2 : base a b c ≤ max a 0 := by unfold base; omega
  have hw : 0 < base a b c → IntKind.i64.wrap (b - base a b c) = b - base a b c := fun h => wi (by unfold base at *; omega) (by omega)
  by_cases h0 : base a b c = 0
  · have e5 : (0 : Int) ≤ max a 0 := by omega
    simp [e5, h0]
  · have e3 : base a b c ≤ b := by unfold base at *; omega
    have e4 : max c 0 ≤ b - base a b c := by unfold base at *; omega
    simp [e1, e2, h0, e3, hw (by omega), e4]
end Go.Proofs.Ytccjanieihlpcaa.K
namespace Go.Proofs.Ytccjanieihlpcaa.policyBases
open Go Go.Proofs Go.ChangeShapes Go.WideShapes Go.ChangeAt Go.RowKit
theorem own : ownKnob Try.prog.godebug = none := by kernel_rfl
theorem walk (a0 : Int) (a1 : Int) (a2 : Int) (w0 : (Lit.int .i64 a0).wf = true) (w1 : (Lit.int .i64 a1).wf = true) (w2 : (Lit.int .i64 a2).wf = true) (w : World) :
    Calls Try.prog 7 #[.int .i64 a0, .int .i64 a1, .int .i64 a2] w fun e w' => e = .returned (.bool true) ∧ Below w.heap.size w w' :=
  K.calls_of K.S_ok (K.law a0 a1 a2 (K.wf_le w0) (K.wf_le w1) (K.wf_le w2)) (K.HRel.nil w) (K.VL.ints [(.i64, a0), (.i64, a1), (.i64, a2)])
set_option maxRecDepth 100000 in
theorem lifted (os : Os) (started : os.Started) (H : Type) (enc : TypeId × Value → H) :
    ReturnsInHanded {} Try.checked os 7 .any (Rows.policyBasesSpec.pre6 enc Try.prog Try.f7 Rows.policyBasesRow.domain false) (Rows.policyBasesSpec.post enc Try.prog Try.f7 false true false false) := by
  refine returnsInHanded_of_change (C := Try.checked) own started (by kernel_rfl) Try.func7
    (ChangeSpec.witness6 (enc := enc) (C := Try.checked) false ⟨#[], #[.int .i64 0, .int .i64 0, .int .i64 0], []⟩ 8 (by kernel_rfl) (by kernel_rfl) (by kernel_rfl) (by kernel_rfl)) ?_
  intro W base args ds gs before hval0 hW hcnd _
  have hval : ∀ (j : Nat) t v, Try.f7.params[j]? = some t → args[j]? = some v → Value.okWide Try.prog W .any base t v := hval0
  have hW' := hW
  obtain ⟨p, q, hA0, hV, rfl, hfz, hnd⟩ := hW
  have hA : DataW.TrodAll enc Try.prog W 0 (fun _ => true) true Try.f7.params.toList args.toList ds p := hA0
  rw [Try.params7] at hA hval
  obtain ⟨v0, vs0, d0, ds0, p0, q0, hargs, rfl, rfl, h0, r0⟩ := trodAll_cons hA
  obtain ⟨v1, vs1, d1, ds1, p1, q1, rfl, rfl, rfl, h1, r1⟩ := trodAll_cons r0
  obtain ⟨v2, vs2, d2, ds2, p2, q2, rfl, rfl, rfl, h2, r2⟩ := trodAll_cons r1
  obtain ⟨rfl, rfl, rfl⟩ := trodAll_nil r2
  obtain rfl : args = #[v0, v1, v2] := by cases args; simp_all
  obtain ⟨rfl, rfl⟩ := trodVars_none hV
  obtain ⟨a0, rfl, rfl, rfl, w0⟩ := open_int Try.underlying3 (hval 0 3 v0 rfl rfl) h0
  obtain ⟨a1, rfl, rfl, rfl, w1⟩ := open_int Try.underlying3 (hval 1 3 v1 rfl rfl) h1
  obtain ⟨a2, rfl, rfl, rfl, w2⟩ := open_int Try.underlying3 (hval 2 3 v2 rfl rfl) h2
  clear hA0 hval0
  simp only [List.append_nil] at hW'
  refine (walk a0 a1 a2 w0 w1 w2 W).mono fun e W' ⟨he, hb⟩ => ?_
  subst he
  exact ⟨_, rfl, K.post_of_below (pa := []) (pv := []) hW' (fun _ _ _ => (trodAll_cons_mk (shut_bool Try.underlying4 _) trodAll_mk0)) (fun sp _ => (trodAll_cons_mk (shut_int Try.underlying3 w0) (trodAll_cons_mk (shut_int Try.underlying3 w1) (trodAll_cons_mk (shut_int Try.underlying3 w2) trodAll_mk0)))) (fun _ _ => rfl) rfl
    hb (ok_one (by kernel_rfl) rfl (okWide_bool_mk Try.underlying4 _))⟩

theorem over : Rows.policyBasesRow.holds Try.pinned (OpenSpec.ofChange Rows.policyBasesSpec) :=
  OpenClaim.holds_of_wide 7 Try.f7 rfl rfl rfl rfl rfl rfl rfl ⟨rfl, rfl, rfl, rfl, rfl⟩ rfl rfl rfl rfl rfl (by kernel_rfl) Try.func7 (by kernel_rfl)
    (of_decide_eq_true (by kernel_rfl)) (by unfold Func.isWrapper; first | (rw [if_pos (by decide +kernel)]; kernel_rfl) | (rw [if_neg (by decide +kernel)]; exact ⟨rfl, rfl⟩))
    (fun os started H enc _ => lifted os started H enc)

theorem proved : Rows.PolicyBasesSaid :=
  over
end Go.Proofs.Ytccjanieihlpcaa.policyBases
