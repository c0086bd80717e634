/- The statement HuffLengths: for any counts there are whole lengths, just where the count is above 0, whose cost is no more than that of the flattest codes, and no less than Huffman's. Proved for all counts. Condition: none. -/
import Derived.Test.YtlboioplemlneaaPE
import Derived.Test.YtlboioplemlneaaRows
import Derived.WalkKit
import Derived.ProofKit
import Derived.OpenShut
set_option maxRecDepth 100000
set_option maxHeartbeats 4000000
set_option linter.unusedVariables false
set_option linter.unusedSimpArgs false
namespace Go.Proofs.Ytlboioplemlneaa.K
open Go Go.Proofs
theorem hLengths_no {H : Heap} {a : Option Addr} {cc : Nat} {c : List Int} (hl : Iv H a c) (hm : (c.length : Int) ≤ 9223372036854775807) (hr : cright c = false) : Wf S 38 [.slice a c.length cc] H fun v H' => H' = H ∧ v = .tuple #[.slice none 0 0, .bool false] := by
  refine w38 rfl rfl _ ?_
  simp [s38]
  refine (cRight_t hl hm).mono ?_
  rintro v H1 ⟨rfl, rfl⟩
  rw [hr]
  simp [tup]
/-- lengths, and what they cost: the least, or the flattest codes' cost -/
def LenQ (c : List Int) (v : Value) (H' : Heap) : Prop := ∃ (N : Nat) (l : List Int) (C : Nat), v = .tuple #[.slice (some ⟨N, 0, none⟩) c.length c.length, .bool true] ∧ H'.get N = .cells (ints l) 3 true ∧ LenOk c l (C : Int) ∧
  (BestIs c C ∨ (∃ W : List Nat, 2 ≤ W.length ∧ W.Perm ((lvs c c.length).map (·.2)) ∧ W.Pairwise (fun a b => b ≤ a) ∧ C = flatC W ∧ ∀ B, BestIs c B → B ≤ C))
theorem Lengths_q {H : Heap} {a : Option Addr} {cc : Nat} {c : List Int} (hl : Iv H a c) (hr : cright c = true) : Wf S 38 [.slice a c.length cc] H fun v H' => Kp H.next H H' ∧ LenQ c v H' := by
  by_cases h2 : 2 ≤ (lvs c c.length).length
  · refine (Lengths_gen (FlatV c) hl hr fun _ h2 H1 hk => ?_).mono ?_
    · exact flat_t (hl.kp hk) hr h2
    · rintro v H' ⟨hk, h⟩
      refine ⟨hk, ?_⟩
      rcases h with ⟨N, l, B, rfl, hN, hok, hB⟩ | ⟨u, rfl, N, l, W, rfl, hN, hp, hf, hok, hle⟩
      · exact ⟨N, l, B, rfl, hN, hok, .inl hB⟩
      · exact ⟨N, l, flatC W, rfl, hN, hok, .inr ⟨W, by rw [hp.length_eq, List.length_map]; exact h2, hp, hf, rfl, hle⟩⟩
  · refine (Lengths_gen (fun _ _ => False) hl hr fun _ h2' => absurd h2' h2).mono ?_
    rintro v H' ⟨hk, h⟩
    refine ⟨hk, ?_⟩
    rcases h with ⟨N, l, B, rfl, hN, hok, hB⟩ | ⟨u, rfl, h⟩
    · exact ⟨N, l, B, rfl, hN, hok, .inl hB⟩
    · exact h.elim
theorem iv_intsL {H : Heap} {b : Nat} {l : List Int} {rw : Bool} (hg : H.get b = .cells (ints l) 3 rw) : Iv H (some ⟨b, 0, none⟩) l := fun hp => ⟨b, 0, ints l, rw, rfl, hg, fun i x hx => by simp [ints, hx]⟩
/-- the law's pass -/
structure LwI (HB : Heap) (k0 : Value) (c l : List Int) (N : Nat) (d : Nat) (e : Fe) (H : Heap) (i : Nat) : Prop where
  hd : d = l.length - i
  hi : i ≤ l.length
  hH : H = HB
  e0 : e 0 = k0
  e3 : e 3 = .slice (some ⟨N, 0, none⟩) c.length c.length
  e5 : ∃ m : Int, e 5 = .int .i64 m
  e47 : e 47 = .slice (some ⟨N, 0, none⟩) c.length c.length
  e48 : e 48 = .int .i64 l.length
  e49 : e 49 = .int .i64 i
theorem lawLengths (kv : Value) (blk : Blk) (hk : ArgSl [.int .i64] 3 0 kv blk) : Wf S 10 [kv] [blk] fun v _ => v = .bool true := by
  obtain ⟨a, cc, c, rfl, hm, hbnd, hiv⟩ := arg_ints hk
  refine w10 rfl rfl _ ?_
  simp [s10]
  refine (aw' blk).mono ?_
  rintro v H1 ⟨rfl, hblk⟩
  have hl : Iv H1 a c := iv_of hiv hblk
  by_cases h3 : (256 : Int) < c.length
  · have h3' : 256 < c.length := by omega
    simp [h3, h3']
  have h3' : ¬ 256 < c.length := by omega
  simp [h3, h3']
  cases hr : cright c with
  | false =>
    refine (hLengths_no (cc := cc) hl hm hr).mono ?_
    rintro v H2 ⟨rfl, rfl⟩
    simp
    refine (r5Right_t hl hm).mono ?_
    rintro v H3 ⟨rfl, rfl⟩
    simp [hr, kEq, kEq1]
    refine (hBest_no hl hm hr).mono ?_
    rintro v H4 ⟨rfl, rfl⟩
    simp
  | true =>
    have hlen := cright_len hr
    refine (Lengths_q (cc := cc) hl hr).mono ?_
    rintro v H2 ⟨hk2, N, l, C, rfl, hN, hok, hC⟩
    have hl2 := hl.kp hk2
    have hil := iv_intsL hN
    have hll := hok.len
    have hw := hok.whole
    have hrt : rightB l = true := by have := hw; simp only [wholeB, Bool.and_eq_true] at this; exact this.1
    have hwt := rWhole_t (c := c.length) hil (by omega)
    rw [hll, hw] at hwt
    simp
    refine (r5Right_t hl2 hm).mono ?_
    rintro v H3 ⟨rfl, rfl⟩
    simp [hr, kEq, kEq1]
    refine hwt.mono ?_
    rintro v H4 ⟨rfl, rfl⟩
    simp
    refine l10_0 S (fun d e H' => ∃ i, LwI H4 (.slice a c.length cc) c l N d e H' i) l.length ⟨0, by omega, by omega, rfl, by simp, by simp, ⟨0, by simp⟩, by simp, by simp [hll], by simp⟩ ?_
    rintro d e H5 ⟨i, rfl, hi, rfl, e0, e3, ⟨m, e5⟩, e47, e48, e49⟩
    by_cases h4 : i < l.length
    · have h4' : (i : Int) < l.length := by omega
      have h4c : i < c.length := by omega
      have h4c' : (i : Int) < c.length := by omega
      obtain ⟨b1, o1, cs1, rw1, rfl, hg1, hcs1⟩ := hl2 (by omega)
      obtain ⟨x, hx⟩ : ∃ x, c[i]? = some x := ⟨_, List.getElem?_eq_getElem (by omega)⟩
      obtain ⟨y, hy⟩ : ∃ y, l[i]? = some y := ⟨_, List.getElem?_eq_getElem h4⟩
      have hcx := hcs1 i x hx
      have hcy : (ints l)[i]? = some (.int .i64 y) := by simp [ints, hy]
      have hpos := hok.pos i
      rw [at0_of hx, at0_of hy] at hpos
      have hw1 : IntKind.i64.wrap ((i : Int) + 1) = ((i + 1 : Nat) : Int) := by rw [wi (by omega) (by omega)]; omega
      by_cases q : 0 < x
      · have q2 := hpos.2 q
        simp [s10_0, e0, e3, e5, e47, e48, e49, h4, h4', h4c, h4c', addOff, hN, hcy, hg1, hcx, q, q2, kEq, kEq1, hw1]
        exact ⟨l.length - (i + 1), by omega, i + 1, rfl, by omega, rfl, by simp [e0], by simp [e3], ⟨_, by simp; rfl⟩, by simp [e47], by simp [e48], by simp⟩
      · have q2 : ¬ 0 < y := fun h => q (hpos.1 h)
        simp [s10_0, e0, e3, e5, e47, e48, e49, h4, h4', h4c, h4c', addOff, hN, hcy, hg1, hcx, q, q2, kEq, kEq1, hw1]
        exact ⟨l.length - (i + 1), by omega, i + 1, rfl, by omega, rfl, by simp [e0], by simp [e3], ⟨_, by simp; rfl⟩, by simp [e47], by simp [e48], by simp⟩
    · obtain rfl : i = l.length := by omega
      have hnb : NoBad c l c.length := fun k _ hbad => by
        have := (hok.pos k).2 hbad.1
        have := hbad.2
        omega
      have hct : costT c l = .tuple #[.int .i64 (C : Int), .bool true] := by
        unfold costT
        rw [if_pos hnb]
        have := hok.cost
        unfold prod
        rw [this]
      have hrc := rCost_t (c1 := cc) (c2 := c.length) hl2 hil hr (by omega) hrt
      rw [hll, hct] at hrc
      have hcc := fun (Hx : Heap) (h1 : Iv Hx a c) (h2 : Iv Hx (some ⟨N, 0, none⟩) l) => Cost_t (c1 := cc) (c2 := c.length) h1 h2 hm (by omega)
      simp [s10_0, e0, e3, e48, e49]
      refine hrc.mono ?_
      rintro v H6 ⟨rfl, rfl⟩
      try simp [e0]
      refine (rBest_t hl2 hr).mono ?_
      rintro v H7 ⟨hk7, B, rfl, hB⟩
      have hl7 := hl2.kp hk7
      have hN7 : H7.get N = .cells (ints l) 3 true := by rw [hk7.2 N (lt_cells hN)]; exact hN
      have hc7 := hcc H7 hl7 (iv_intsL hN7)
      rw [if_pos ⟨hr, by omega, hrt⟩, hct, hll] at hc7
      try simp [e0, e3]
      refine hc7.mono ?_
      rintro v H8 ⟨rfl, rfl⟩
      try simp [e0]
      refine (hBest_t hl7 hr).mono ?_
      rintro v H9 ⟨hk9, B', rfl, hB'⟩
      obtain rfl := hB.uniq hB'
      have hge : B ≤ C := by
        rcases hC with h | ⟨W, _, _, _, _, h⟩
        · exact Nat.le_of_eq (hB.uniq h)
        · exact h B hB
      have hge' : (B : Int) ≤ C := by omega
      simp [hge, hge', e0]
      refine (rFlat_t (hl7.kp hk9) hr).mono ?_
      rintro v H10 ⟨hk10, F, rfl, hF⟩
      have hfin : (C : Int) ≤ max F B := by
        rcases hC with h | ⟨W, w1, w2, w3, w4, _⟩
        · have := hB.uniq h; omega
        · have := hF W w1 w2 w3; omega
      simp [hfin]
end Go.Proofs.Ytlboioplemlneaa.K
namespace Go.Proofs.Ytlboioplemlneaa.huffLengths
open Go Go.Proofs Go.ChangeShapes Go.WideShapes Go.ChangeAt Go.RowKit
theorem own : ownKnob Try.prog.godebug = none := by kernel_rfl
theorem laid : laidOutB Try.prog = true := by kernel_rfl
set_option maxRecDepth 100000 in
theorem lifted (os : Os) (started : os.Started) (H : Type) (enc : TypeId × Value → H) :
    ReturnsInHanded {} Try.checked os 10 .any (Rows.huffLengthsSpec.pre6 enc Try.prog Try.f10 Rows.huffLengthsRow.domain false) (Rows.huffLengthsSpec.post enc Try.prog Try.f10 false true false false) := by
  refine returnsInHanded_of_change (C := Try.checked) own started (by kernel_rfl) Try.func10
    (ChangeSpec.witness6 (enc := enc) (C := Try.checked) false ⟨#[], #[.slice none 0 0], []⟩ 8 (by kernel_rfl) (by kernel_rfl) (by kernel_rfl) (by kernel_rfl)) ?_
  intro W base args ds gs before hval0 hW hcnd _
  have hval : ∀ (j : Nat) t v, Try.f10.params[j]? = some t → args[j]? = some v → Value.okWide Try.prog W .any base t v := hval0
  have hW' := hW
  obtain ⟨p, q, hA0, hV, rfl, hfz, hnd⟩ := hW
  have hA : DataW.TrodAll enc Try.prog W 0 (fun _ => true) true Try.f10.params.toList args.toList ds p := hA0
  rw [Try.params10] at hA hval
  have hA1 := hA
  obtain ⟨v0, vs0, d0, ds0, p0, q0, hargs, rfl, rfl, h0, r0⟩ := trodAll_cons hA
  obtain ⟨rfl, rfl, rfl⟩ := trodAll_nil r0
  obtain rfl : args = #[v0] := by cases args; simp_all
  obtain ⟨rfl, rfl⟩ := trodVars_none hV
  have HR0 := K.HRel.nil (P := Try.prog) W
  have hn0 : ∀ b : Nat, (K.Heap.get [] b).own = false := fun b => rfl
  obtain ⟨a0, b0, ρ1, p1x, x0, HR1, hn1, w0⟩ := K.arg_slice (e := 3) (d := 6) (ks := [.int .i64]) Try.underlying38 (by kernel_rfl) (by kernel_rfl) (by decide) (hval 0 38 v0 rfl rfl) h0 HR0 hn0
  clear hA0 hval0
  refine (K.calls_of K.S_ok (K.lawLengths a0 b0 w0) HR1 (K.VL.cons x0 K.VL.nil)).mono fun e W' ⟨he, hb⟩ => ?_
  subst he
  exact ⟨_, rfl, K.post_of_below (pa := _) (pv := []) hW' (fun _ _ _ => (trodAll_cons_mk (shut_bool Try.underlying4 _) trodAll_mk0)) (fun sp hsp => K.trodAll_stays laid hb hA1 (by
      intro t ht
      replace ht : t ∈ ([38] : List TypeId) := ht
      simp only [List.mem_cons, List.not_mem_nil, or_false] at ht
      subst ht; exact ⟨by kernel_rfl, of_decide_eq_true (by kernel_rfl)⟩) (fun x hx => hW'.lt x (by simpa using hx)) (fun x hx => hsp x (by simpa using hx))) (fun _ _ => rfl) rfl
    hb (ok_one (by kernel_rfl) rfl (okWide_bool_mk Try.underlying4 _))⟩
theorem over : Rows.huffLengthsRow.holds Try.pinned (OpenSpec.ofChange Rows.huffLengthsSpec) :=
  OpenClaim.holds_of_wide 10 Try.f10 rfl rfl rfl rfl rfl rfl rfl ⟨rfl, rfl, rfl, rfl, rfl⟩ rfl rfl rfl rfl rfl (by kernel_rfl) Try.func10 (by kernel_rfl)
    (of_decide_eq_true (by kernel_rfl)) (by unfold Func.isWrapper; first | (rw [if_pos (by decide +kernel)]; kernel_rfl) | (rw [if_neg (by decide +kernel)]; exact ⟨rfl, rfl⟩))
    (fun os started H enc _ => lifted os started H enc)
theorem proved : Rows.HuffLengthsSaid :=
  over
end Go.Proofs.Ytlboioplemlneaa.huffLengths
