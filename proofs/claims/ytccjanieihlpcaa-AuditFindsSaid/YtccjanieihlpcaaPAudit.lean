/- The statement AuditFinds: what is found in any notes is the document's. Proved for every list of notes. Condition: none. -/
import Derived.Test.YtccjanieihlpcaaPAudD
import Derived.Test.YtccjanieihlpcaaRows
import Derived.WalkKit
import Derived.ProofKit
import Derived.OpenShut
set_option maxRecDepth 100000
set_option maxHeartbeats 2000000
set_option linter.unusedVariables false
set_option linter.unusedSimpArgs false
namespace Go.Proofs.Ytccjanieihlpcaa.K
open Go Go.Proofs
theorem aw (blk : Blk) : (evFn S 60 12 [] [blk]).map (fun p => (p.1, p.2.get 0)) = some (.bool true, blk) := by kernel_rfl
theorem aw' (blk : Blk) : Wf S 12 [] [blk] fun v H' => v = .bool true ∧ H'.get 0 = blk := (run_of (aw blk)).mono fun v H' h => by simpa using h
theorem fnds_pre (l : List Nt) : ∀ k i, i + k = l.length → ∃ r, fnds l l.length = fnds l i ++ r
  | 0, i, h => ⟨[], by simp [show i = l.length by omega]⟩
  | k + 1, i, h => by
    obtain ⟨r, hr⟩ := fnds_pre l k (i + 1) (by omega)
    rw [hr]; simp only [fnds, List.append_assoc]
    exact ⟨_, rfl⟩
theorem fnds_at {l : List Nt} {i : Nat} {x : Nt} (hx : l[i]? = some x) (hf : find (l.take i) x ≠ 0) : (fnds l l.length)[(fnds l i).length]? = some ((i : Int), find (l.take i) x) := by
  have hi := (List.getElem?_eq_some_iff.1 hx).1
  obtain ⟨r, hr⟩ := fnds_pre l (l.length - (i + 1)) (i + 1) (by omega)
  rw [hr]
  simp [fnds, hx, hf]
def IL (l : List Nt) (c : Nat) (a : Option Addr) (got : Value) (d : Nat) (e : Fe) (H : Heap) : Prop := ∃ i : Nat, i ≤ l.length ∧ d = l.length - i ∧ Ns H a l ∧ e 0 = .slice a l.length c ∧ e 3 = got ∧ e 4 = .int .i64 (fnds l i).length ∧ e 17 = .int .i64 l.length ∧ e 18 = .int .i64 i ∧
  ∃ a2 c2, got = .slice a2 (fnds l l.length).length c2 ∧ (0 < (fnds l l.length).length → ∃ b, a2 = some ⟨b, 0, none⟩ ∧ H.get b = .cells ((fnds l l.length).flatMap prc) 28 true)
theorem lawFinds (kv : Value) (blk : Blk) (hk : ArgSl [.int .i64, .int .i64, .int .i64, .int .i64, .str] 74 0 kv blk) :
    Wf S 3 [kv] [blk] fun v _ => v = .bool true := by
  obtain ⟨a, c, l, rfl, ha⟩ : ∃ a c, ∃ l : List Nt, kv = .slice a l.length c ∧ (0 < l.length → a = some ⟨0, 0, none⟩ ∧ blk = .cells (nts l) 74 false) := by
    rcases hk with rfl | ⟨m, cs, _, hs, rfl, rfl⟩
    · exact ⟨none, 0, [], rfl, by simp⟩
    · obtain ⟨l, rfl, rfl, _⟩ := sks_rows (f := Nt.cells) (good := fun _ => True) (by decide) (fun vs h => by
        obtain ⟨_, _, rfl, ⟨k, rfl, _⟩, _, _, rfl, ⟨r, rfl, _⟩, _, _, rfl, ⟨g, rfl, _⟩, _, _, rfl, ⟨n, rfl, _⟩, _, _, rfl, ⟨d, rfl, _⟩, rfl⟩ := h
        exact ⟨⟨k, r, g, n, d⟩, rfl, trivial⟩) m cs hs
      exact ⟨_, _, l, rfl, fun _ => ⟨rfl, rfl⟩⟩
  refine w3 rfl rfl _ ?_
  simp [s3]
  refine (aw' blk).mono ?_
  rintro v H1 ⟨rfl, hblk⟩
  by_cases h60 : (60 : Int) < l.length
  · simp [h60]
  have hns : Ns H1 a l := fun hp => by
    obtain ⟨h1, h2⟩ := ha hp
    exact ⟨0, h1, hblk.trans h2⟩
  simp [h60]
  refine (Check_t hns (by omega)).mono ?_
  rintro v H2 ⟨hk2, hA⟩
  obtain ⟨a2, c2, rfl, h2⟩ := hA.len
  have hns2 := hns.kp hk2
  try simp
  refine l3_0 S (IL l c a (.slice a2 (fnds l l.length).length c2)) l.length ⟨0, by omega, by omega, hns2, by simp, by simp, by simp [fnds], by simp, by simp, a2, c2, rfl, h2⟩ ?_
  rintro d e H ⟨i, hi, rfl, hns, e0, e3, e4, e17, e18, a3, c3, he3, h3⟩
  simp only [Value.slice.injEq, true_and] at he3
  obtain ⟨rfl, rfl⟩ := he3
  by_cases hlt : i < l.length
  · have h4 : (i : Int) < l.length := by omega
    obtain ⟨x, hx⟩ : ∃ x, l[i]? = some x := ⟨_, List.getElem?_eq_getElem hlt⟩
    obtain ⟨b, rfl, hb⟩ := hns (by omega)
    have hw : IntKind.i64.wrap ((i : Int) + 1) = (i : Int) + 1 := wi (by omega) (by omega)
    have hlen := fnds_len l i
    simp [s3_0, e0, e3, e4, e17, e18, hlt]
    refine (refFind_t hb hx (by omega)).mono ?_
    rintro v H3 ⟨rfl, hk3⟩
    have hns3 := hns.kp hk3
    by_cases hf : find (l.take i) x = 0
    · simp [hf, e0, e3, e4, e17, e18, hw]
      refine ⟨l.length - (i + 1), by omega, i + 1, by omega, rfl, hns3, by simp [e0], by simp [e3], by simp [fnds, hx, hf, e4], by simp [e17], by simp, a2, c2, rfl, fun hp => ?_⟩
      obtain ⟨b2, q1, q2⟩ := h3 hp
      exact ⟨b2, q1, (hk3.2 b2 (lt_cells q2)).trans q2⟩
    · have hat := fnds_at hx hf
      have hlt2 := (List.getElem?_eq_some_iff.1 hat).1
      obtain ⟨b2, rfl, hb2⟩ := h3 (by omega)
      have hb3 := (hk3.2 b2 (lt_cells hb2)).trans hb2
      have hrd : rd ((fnds l l.length).flatMap prc) ((fnds l i).length * 2) 2 = some (prc ((i : Int), find (l.take i) x)) := rows_rd (f := prc) (z := 2) (fun _ => rfl) hat
      have hw2 : IntKind.i64.wrap (((fnds l i).length : Int) + 1) = ((fnds l i).length : Int) + 1 := wi (by omega) (by omega)
      have hge : ¬ ((fnds l l.length).length : Int) ≤ (fnds l i).length := by omega
      have hge2 : ¬ (fnds l l.length).length ≤ (fnds l i).length := by omega
      simp [hf, e0, e3, e4, e17, e18, hw, hw2, hge, hge2, hlt2, addOff, kLdn, hb3, hrd, prc, kFill, evPs, isTup, cellsL, wr, kEq, kEqL, kEq1]
      exact ⟨l.length - (i + 1), by omega, i + 1, by omega, rfl, hns3, by simp [e0], by simp [e3], by simp [fnds, hx, hf], by simp [e17], by simp, _, c2, rfl, fun hp => ⟨b2, rfl, hb3⟩⟩
  · have h5 : i = l.length := by omega
    subst h5
    simp [s3_0, e17, e18, e0]
    refine (First_t hns (by omega)).mono ?_
    rintro v H3 ⟨hk3, rfl⟩
    have hns3 := hk3.1
    cases hf : fnds l l.length with
    | nil =>
      simp [hf] at e3 e4
      simp [kStn, wr, prc, put_push, e3, e4, kEq, kEq1]
    | cons p ps =>
      rw [hf] at h3
      obtain ⟨b2, rfl, hb2⟩ := h3 (by simp)
      have hb3 := (hk3.2 b2 (lt_cells hb2)).trans hb2
      have hlb := lt_cells hb3
      simp [hf] at e3 e4
      have h0 : (0 : Int) < (ps.length : Int) + 1 := by omega
      simp [kStn, wr, prc, put_push, e3, e4, kEq, kEq1, kEqL, h0, kLdn, rd, addOff, hb3, hlb]
end Go.Proofs.Ytccjanieihlpcaa.K
namespace Go.Proofs.Ytccjanieihlpcaa.auditFinds
open Go Go.Proofs Go.ChangeShapes Go.WideShapes Go.ChangeAt Go.RowKit
theorem own : ownKnob Try.prog.godebug = none := by kernel_rfl
theorem laid : laidOutB Try.prog = true := by kernel_rfl
set_option maxRecDepth 100000 in
theorem lifted (os : Os) (started : os.Started) (H : Type) (enc : TypeId × Value → H) :
    ReturnsInHanded {} Try.checked os 3 .any (Rows.auditFindsSpec.pre6 enc Try.prog Try.f3 Rows.auditFindsRow.domain false) (Rows.auditFindsSpec.post enc Try.prog Try.f3 false true false false) := by
  refine returnsInHanded_of_change (C := Try.checked) own started (by kernel_rfl) Try.func3
    (ChangeSpec.witness6 (enc := enc) (C := Try.checked) false ⟨#[], #[.slice none 0 0], []⟩ 8 (by kernel_rfl) (by kernel_rfl) (by kernel_rfl) (by kernel_rfl)) ?_
  intro W base args ds gs before hval0 hW hcnd _
  have hval : ∀ (j : Nat) t v, Try.f3.params[j]? = some t → args[j]? = some v → Value.okWide Try.prog W .any base t v := hval0
  have hW' := hW
  obtain ⟨p, q, hA0, hV, rfl, hfz, hnd⟩ := hW
  have hA : DataW.TrodAll enc Try.prog W 0 (fun _ => true) true Try.f3.params.toList args.toList ds p := hA0
  rw [Try.params3] at hA hval
  have hA1 := hA
  obtain ⟨v0, vs0, d0, ds0, p0, q0, hargs, rfl, rfl, h0, r0⟩ := trodAll_cons hA
  obtain ⟨rfl, rfl, rfl⟩ := trodAll_nil r0
  obtain rfl : args = #[v0] := by cases args; simp_all
  obtain ⟨rfl, rfl⟩ := trodVars_none hV
  have HR0 := K.HRel.nil (P := Try.prog) W
  have hn0 : ∀ b : Nat, (K.Heap.get [] b).own = false := fun b => rfl
  obtain ⟨a0, b0, ρ1, p1x, x0, HR1, hn1, w0⟩ := K.arg_slice (e := 74) (d := 6) (ks := [.int .i64, .int .i64, .int .i64, .int .i64, .str]) Try.underlying22 (by kernel_rfl) (by kernel_rfl) (by decide) (hval 0 22 v0 rfl rfl) h0 HR0 hn0
  clear hA0 hval0
  refine (K.calls_of K.S_ok (K.lawFinds a0 b0 w0) HR1 (K.VL.cons x0 K.VL.nil)).mono fun e W' ⟨he, hb⟩ => ?_
  subst he
  exact ⟨_, rfl, K.post_of_below (pa := _) (pv := []) hW' (fun _ _ _ => (trodAll_cons_mk (shut_bool Try.underlying4 _) trodAll_mk0)) (fun sp hsp => K.trodAll_stays laid hb hA1 (by
      intro t ht
      replace ht : t ∈ ([22] : List TypeId) := ht
      simp only [List.mem_cons, List.not_mem_nil, or_false] at ht
      subst ht; exact ⟨by kernel_rfl, of_decide_eq_true (by kernel_rfl)⟩) (fun x hx => hW'.lt x (by simpa using hx)) (fun x hx => hsp x (by simpa using hx))) (fun _ _ => rfl) rfl
    hb (ok_one (by kernel_rfl) rfl (okWide_bool_mk Try.underlying4 _))⟩
theorem over : Rows.auditFindsRow.holds Try.pinned (OpenSpec.ofChange Rows.auditFindsSpec) :=
  OpenClaim.holds_of_wide 3 Try.f3 rfl rfl rfl rfl rfl rfl rfl ⟨rfl, rfl, rfl, rfl, rfl⟩ rfl rfl rfl rfl rfl (by kernel_rfl) Try.func3 (by kernel_rfl)
    (of_decide_eq_true (by kernel_rfl)) (by unfold Func.isWrapper; first | (rw [if_pos (by decide +kernel)]; kernel_rfl) | (rw [if_neg (by decide +kernel)]; exact ⟨rfl, rfl⟩))
    (fun os started H enc _ => lifted os started H enc)
theorem proved : Rows.AuditFindsSaid :=
  over
end Go.Proofs.Ytccjanieihlpcaa.auditFinds
