/- The statement PolicyDue: a dictionary is due once as many bytes came as are told, and not ahead of that; nobody has nothing. Proved for every three numbers. Condition: none. -/
import Derived.Test.YtccjanieihlpcaaKPolSh
import Derived.Test.YtccjanieihlpcaaKSimp
import Derived.Test.YtccjanieihlpcaaRows
import Derived.WalkKit
import Derived.ProofKit
import Derived.OpenShut
set_option maxRecDepth 100000
set_option linter.unusedVariables false
set_option linter.unusedSimpArgs false
namespace Go.Proofs.Ytccjanieihlpcaa.K
open Go Go.Proofs
def S : Sys := ⟨F, M, fun _ => none⟩
theorem S_ok : SysOK Go.Proofs.Try.prog S := ⟨M_ok, by kernel_rfl, F_ok, fun f p h => by cases h⟩
theorem wi {x : Int} (h1 : -9223372036854775808 ≤ x) (h2 : x ≤ 9223372036854775807) : IntKind.i64.wrap x = x := by
  rw [IntKind.wrap_i64]; omega
theorem aw : (evFn S 40 24 [] []).map (·.1) = some (.bool true) := by kernel_rfl
theorem aw' : Wf S 24 [] [] fun v _ => v = .bool true := by
  have h := aw
  cases hq : evFn S 40 24 [] [] with
  | none => rw [hq] at h; simp at h
  | some p => rw [hq] at h; exact ⟨40, p.1, p.2, hq, by simpa using h⟩

theorem Count_nil (H : Heap) : Wf S 30 [.pointer none] H fun v H' => H' = H ∧ v = .int .i64 0 := by
  refine w30 rfl rfl _ ?_
  simp [s30, kEq]
theorem in_nil (H : Heap) (i : Int) : Wf S 62 [.pointer none, .int .i64 i] H fun v H' => H' = H ∧ v = .bool false := by
  refine w62 rfl rfl _ _ ?_
  by_cases h : 1 ≤ i
  · simp [s62, h]
    refine (Count_nil H).mono ?_
    rintro v H2 ⟨rfl, rfl⟩
    have : ¬ i ≤ 0 := by omega
    simp [this]
  · simp [s62, h]
theorem Set_nil (H : Heap) (i n : Int) : Wf S 26 [.pointer none, .int .i64 i, .int .i64 n] H fun v H' => H' = H ∧ v = .bool false := by
  refine w26 rfl rfl _ _ _ ?_
  simp [s26]
  refine (in_nil H i).mono ?_
  rintro v H2 ⟨rfl, rfl⟩
  simp
theorem Lag_nil (H : Heap) (i n : Int) : Wf S 27 [.pointer none, .int .i64 i, .int .i64 n] H fun v H' => H' = H ∧ v = .int .i64 0 := by
  refine w27 rfl rfl _ _ _ ?_
  simp [s27]
  refine (in_nil H i).mono ?_
  rintro v H2 ⟨rfl, rfl⟩
  simp
theorem Least_nil (H : Heap) : Wf S 31 [.pointer none] H fun v H' => H' = H ∧ v = .int .i64 0 := by
  refine w31 rfl rfl _ ?_
  simp [s31]
  refine (Count_nil H).mono ?_
  rintro v H2 ⟨rfl, rfl⟩
  simp
theorem Most_nil (H : Heap) : Wf S 32 [.pointer none] H fun v H' => H' = H ∧ v = .int .i64 0 := by
  refine w32 rfl rfl _ ?_
  simp [s32]
  refine (Count_nil H).mono ?_
  rintro v H2 ⟨rfl, rfl⟩
  simp
theorem sort_none (H : Heap) (f : Value) (x : Option Addr) (c : Nat) : Wf S 101 [.slice x 0 c, .int .i64 0, .int .i64 0, f] H fun v H' => H' = H := by
  refine w101 rfl rfl _ _ _ _ ?_
  have h1 : IntKind.i64.wrap 1 = 1 := by decide
  simp [s101, h1]
  refine u101_0 _ ?_
  simp [s101_0]
theorem sort_none' (H : Heap) (f : Value) (x : Option Addr) (c : Nat) : Wf S 89 [.slice x 0 c, .int .i64 0, f] H fun v H' => H' = H := by
  refine w89 rfl rfl _ _ _ ?_
  simp [s89]
  refine u89_1 _ ?_
  simp [s89_1]
  refine (sort_none H f x c).mono ?_
  rintro v H2 rfl
  refine u89_0 _ ?_
  simp [s89_0]
theorem Behind_nil (H : Heap) (n : Int) : Wf S 34 [.pointer none, .int .i64 n] H fun v H' => v = .slice none 0 0 := by
  refine w34 rfl rfl _ _ ?_
  simp [s34, isTup, cellsL]
  refine (Count_nil _).mono ?_
  rintro v H2 ⟨rfl, rfl⟩
  try simp
  refine u34_0 _ ?_
  simp [s34_0]
  refine w65 rfl rfl _ _ ?_
  simp [s65]
  refine (sort_none' _ _ none 0).mono ?_
  rintro v H2 rfl
  simp
theorem Due1_runs (H : Heap) (a : Int) : Wf S 68 [.int .i64 a] H fun v H' => H' = H ∧ v = .int .i64 (min (max a 0) 1099511627776) := by
  refine w68 rfl rfl _ ?_
  simp [s68]
theorem Due_runs (H : Heap) (a b c : Int) : Wf S 38 [.int .i64 a, .int .i64 b, .int .i64 c] H fun v H' => H' = H ∧ v = .bool (decide (0 < min (max c 0) 1099511627776) && decide (min (max c 0) 1099511627776 ≤ min (max a 0) 1099511627776 - min (max b 0) 1099511627776)) := by
  refine w38 rfl rfl _ _ _ ?_
  by_cases h : c ≤ 0
  · have : ¬ 0 < min (max c 0) 1099511627776 := by omega
    simp [s38, h, this]
  · simp [s38, h]
    refine (Due1_runs _ a).mono ?_
    rintro v H2 ⟨rfl, rfl⟩
    try simp
    refine (Due1_runs _ b).mono ?_
    rintro v H2 ⟨rfl, rfl⟩
    try simp
    refine (Due1_runs _ c).mono ?_
    rintro v H2 ⟨rfl, rfl⟩
    have h1 : 0 < min (max c 0) 1099511627776 := by omega
    have h2 : IntKind.i64.wrap (min (max b 0) 1099511627776 + min (max c 0) 1099511627776) = min (max b 0) 1099511627776 + min (max c 0) 1099511627776 := wi (by omega) (by omega)
    have h3 : (min (max b 0) 1099511627776 + min (max c 0) 1099511627776 ≤ min (max a 0) 1099511627776) ↔ (min (max c 0) 1099511627776 ≤ min (max a 0) 1099511627776 - min (max b 0) 1099511627776) := by omega
    have h4 : decide (min (max b 0) 1099511627776 + min (max c 0) 1099511627776 ≤ min (max a 0) 1099511627776) = decide (min (max c 0) 1099511627776 ≤ min (max a 0) 1099511627776 - min (max b 0) 1099511627776) := by simp only [h3]
    simp only [kb_add, kb_geq, oV_some, h2, h4, decide_eq_true h1, Bool.true_and, and_self]
theorem lawDue (a b c : Int) : Wf S 8 [.int .i64 a, .int .i64 b, .int .i64 c] [] fun v _ => v = .bool true := by
  refine w8 rfl rfl _ _ _ ?_
  simp [s8]
  refine aw'.mono ?_
  rintro v H1 rfl
  simp
  refine (Due_runs _ a b c).mono ?_
  rintro v H2 ⟨rfl, rfl⟩
  have hw : IntKind.i64.wrap (min (max a 0) 1099511627776 - min (max b 0) 1099511627776) = min (max a 0) 1099511627776 - min (max b 0) 1099511627776 := wi (by omega) (by omega)
  by_cases h1 : 0 < min (max c 0) 1099511627776
  · simp [h1, hw, kEq, kEq1]
    refine (Count_nil _).mono ?_
    rintro v H3 ⟨rfl, rfl⟩
    simp
    refine (Set_nil _ _ _).mono ?_
    rintro v H3 ⟨rfl, rfl⟩
    simp
    refine (Lag_nil _ _ _).mono ?_
    rintro v H3 ⟨rfl, rfl⟩
    simp
    refine (Least_nil _).mono ?_
    rintro v H3 ⟨rfl, rfl⟩
    simp
    refine (Most_nil _).mono ?_
    rintro v H3 ⟨rfl, rfl⟩
    simp
    refine (Behind_nil _ _).mono ?_
    rintro v H3 rfl
    simp
  · simp [h1, hw, kEq, kEq1]
    refine (Count_nil _).mono ?_
    rintro v H3 ⟨rfl, rfl⟩
    simp
    refine (Set_nil _ _ _).mono ?_
    rintro v H3 ⟨rfl, rfl⟩
    simp
    refine (Lag_nil _ _ _).mono ?_
    rintro v H3 ⟨rfl, rfl⟩
    simp
    refine (Least_nil _).mono ?_
    rintro v H3 ⟨rfl, rfl⟩
    simp
    refine (Most_nil _).mono ?_
    rintro v H3 ⟨rfl, rfl⟩
    simp
    refine (Behind_nil _ _).mono ?_
    rintro v H3 rfl
    simp
end Go.Proofs.Ytccjanieihlpcaa.K
namespace Go.Proofs.Ytccjanieihlpcaa.policyDue
open Go Go.Proofs Go.ChangeShapes Go.WideShapes Go.ChangeAt Go.RowKit
theorem own : ownKnob Try.prog.godebug = none := by kernel_rfl
theorem walk (a0 : Int) (a1 : Int) (a2 : Int) (w0 : (Lit.int .i64 a0).wf = true) (w1 : (Lit.int .i64 a1).wf = true) (w2 : (Lit.int .i64 a2).wf = true) (w : World) :
    Calls Try.prog 8 #[.int .i64 a0, .int .i64 a1, .int .i64 a2] w fun e w' => e = .returned (.bool true) ∧ Below w.heap.size w w' :=
  K.calls_of K.S_ok (K.lawDue a0 a1 a2) (K.HRel.nil w) (K.VL.ints [(.i64, a0), (.i64, a1), (.i64, a2)])
set_option maxRecDepth 100000 in
theorem lifted (os : Os) (started : os.Started) (H : Type) (enc : TypeId × Value → H) :
    ReturnsInHanded {} Try.checked os 8 .any (Rows.policyDueSpec.pre6 enc Try.prog Try.f8 Rows.policyDueRow.domain false) (Rows.policyDueSpec.post enc Try.prog Try.f8 false true false false) := by
  refine returnsInHanded_of_change (C := Try.checked) own started (by kernel_rfl) Try.func8
    (ChangeSpec.witness6 (enc := enc) (C := Try.checked) false ⟨#[], #[.int .i64 0, .int .i64 0, .int .i64 0], []⟩ 8 (by kernel_rfl) (by kernel_rfl) (by kernel_rfl) (by kernel_rfl)) ?_
  intro W base args ds gs before hval0 hW hcnd _
  have hval : ∀ (j : Nat) t v, Try.f8.params[j]? = some t → args[j]? = some v → Value.okWide Try.prog W .any base t v := hval0
  have hW' := hW
  obtain ⟨p, q, hA0, hV, rfl, hfz, hnd⟩ := hW
  have hA : DataW.TrodAll enc Try.prog W 0 (fun _ => true) true Try.f8.params.toList args.toList ds p := hA0
  rw [Try.params8] at hA hval
  obtain ⟨v0, vs0, d0, ds0, p0, q0, hargs, rfl, rfl, h0, r0⟩ := trodAll_cons hA
  obtain ⟨v1, vs1, d1, ds1, p1, q1, rfl, rfl, rfl, h1, r1⟩ := trodAll_cons r0
  obtain ⟨v2, vs2, d2, ds2, p2, q2, rfl, rfl, rfl, h2, r2⟩ := trodAll_cons r1
  obtain ⟨rfl, rfl, rfl⟩ := trodAll_nil r2
  obtain rfl : args = #[v0, v1, v2] := by cases args; simp_all
  obtain ⟨rfl, rfl⟩ := trodVars_none hV
  obtain ⟨a0, rfl, rfl, rfl, w0⟩ := open_int Try.underlying3 (hval 0 3 v0 rfl rfl) h0
  obtain ⟨a1, rfl, rfl, rfl, w1⟩ := open_int Try.underlying3 (hval 1 3 v1 rfl rfl) h1
  obtain ⟨a2, rfl, rfl, rfl, w2⟩ := open_int Try.underlying3 (hval 2 3 v2 rfl rfl) h2
  clear hA0 hval0
  simp only [List.append_nil] at hW'
  refine (walk a0 a1 a2 w0 w1 w2 W).mono fun e W' ⟨he, hb⟩ => ?_
  subst he
  exact ⟨_, rfl, K.post_of_below (pa := []) (pv := []) hW' (fun _ _ _ => (trodAll_cons_mk (shut_bool Try.underlying4 _) trodAll_mk0)) (fun sp _ => (trodAll_cons_mk (shut_int Try.underlying3 w0) (trodAll_cons_mk (shut_int Try.underlying3 w1) (trodAll_cons_mk (shut_int Try.underlying3 w2) trodAll_mk0)))) (fun _ _ => rfl) rfl
    hb (ok_one (by kernel_rfl) rfl (okWide_bool_mk Try.underlying4 _))⟩

theorem over : Rows.policyDueRow.holds Try.pinned (OpenSpec.ofChange Rows.policyDueSpec) :=
  OpenClaim.holds_of_wide 8 Try.f8 rfl rfl rfl rfl rfl rfl rfl ⟨rfl, rfl, rfl, rfl, rfl⟩ rfl rfl rfl rfl rfl (by kernel_rfl) Try.func8 (by kernel_rfl)
    (of_decide_eq_true (by kernel_rfl)) (by unfold Func.isWrapper; first | (rw [if_pos (by decide +kernel)]; kernel_rfl) | (rw [if_neg (by decide +kernel)]; exact ⟨rfl, rfl⟩))
    (fun os started H enc _ => lifted os started H enc)

theorem proved : Rows.PolicyDueSaid :=
  over
end Go.Proofs.Ytccjanieihlpcaa.policyDue
