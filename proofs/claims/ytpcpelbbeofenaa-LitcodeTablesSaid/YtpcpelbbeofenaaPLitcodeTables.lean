/- The statement LitcodeTables: lengths as bytes, or that they aren't whole, are the document's, and are read again; any bytes are read as the document says. Proved for every list of lengths and every text. Condition: none. -/
import Derived.Test.YtpcpelbbeofenaaPLitF
import Derived.Test.YtpcpelbbeofenaaRows
import Derived.WalkKit
import Derived.ProofKit
import Derived.OpenShut
set_option maxRecDepth 100000
set_option maxHeartbeats 4000000
set_option linter.unusedVariables false
set_option linter.unusedSimpArgs false
namespace Go.Proofs.Ytpcpelbbeofenaa.K
open Go Go.Proofs
theorem aw (blk : Blk) : (evFn S 60 31 [] [blk]).map (fun p => (p.1, p.2.get 0)) = some (.bool true, blk) := by kernel_rfl
theorem aw' (blk : Blk) : Wf S 31 [] [blk] fun v H' => v = .bool true ∧ H'.get 0 = blk := (run_of (aw blk)).mono fun v H' h => by simpa using h
theorem ints_flat : ∀ l : List Int, l.flatMap (fun x : Int => [Value.int .i64 x]) = ints l
  | [] => rfl
  | x :: l => by
    have := ints_flat l
    simp only [List.flatMap_cons, this, ints, List.map_cons]; rfl
/-- a law's numbers: they may be cut -/
theorem arg_is {b : Nat} {kv : Value} {blk : Blk} (h : ArgSl [.int .i64] 3 b kv blk) : ∃ l : List Int, (l.length : Int) ≤ 9223372036854775807 ∧ ∀ H : Heap, H.get b = blk → Is H kv l := by
  rcases h with rfl | ⟨m, cs, hm, hs, rfl, rfl⟩
  · exact ⟨[], by simp, fun H _ => .inl ⟨rfl, rfl⟩⟩
  · obtain ⟨l, rfl, rfl, hb⟩ := sks_rows (f := fun x : Int => [.int .i64 x]) (good := fun _ => True) (by decide) (fun vs h => by
      obtain ⟨_, _, rfl, ⟨k, rfl, hk⟩, rfl⟩ := h
      exact ⟨k, rfl, trivial⟩) m cs hs
    refine ⟨l, by unfold maxLen at hm; omega, fun H hg => .inr ⟨b, 0, capx, ints l, false, rfl, .inl rfl, by rw [hg, ints_flat], fun i x hx => by simp [ints, hx]⟩⟩
theorem lawTables (kv : Value) (blk : Blk) (st : ByteArray) (hk : ArgSl [.int .i64] 3 0 kv blk) (hst : st.size ≤ maxLen) : Wf S 8 [kv, .string st] [blk] fun v _ => v = .bool true := by
  obtain ⟨l, hm, his0⟩ := arg_is hk
  obtain ⟨s, rfl⟩ : ∃ s, st = ofL s := ⟨_, (ofL_data st).symm⟩
  rw [ofL_size] at hst
  refine w8 rfl rfl _ _ ?_
  obtain ⟨a0, c0, rfl, _⟩ := (his0 [blk] rfl).iv
  simp [s8]
  refine (aw' blk).mono ?_
  rintro v H1 ⟨rfl, hblk⟩
  have his := his0 H1 hblk
  have hiv : Iv H1 a0 l := by
    obtain ⟨a1, c1, he, h⟩ := his.iv
    simp only [Value.slice.injEq] at he
    obtain ⟨rfl, _, rfl⟩ := he; exact h
  by_cases h3 : (256 : Int) < l.length
  · simp [h3]
  by_cases h4 : (200 : Int) < s.length
  · simp [h3, h4, ofL_size]
  simp [h3, h4, ofL_size]
  refine (Table_t his hm whole_pos).mono ?_
  rintro v H2 ⟨hk2, rfl⟩
  have his2 := his.kp hk2
  have hiv2 := hiv.kp hk2
  by_cases hw : wholeB l = true
  · simp [hw]
    refine (rWhole_t hiv2 hm).mono ?_
    rintro v H3 ⟨rfl, rfl⟩
    have hr : rightB l = true := by simp only [wholeB, Bool.and_eq_true] at hw; exact hw.1
    have hlen := right_len hr
    obtain ⟨hb1, hb2, hb3⟩ := back hw [120]
    have htl : (tableOf l).length ≤ 1000 := by
      have := shortN_le l
      unfold tableOf; simp [tabs_len]; omega
    have hx : bs [120] = ofL [120] := rfl
    simp [hw, kEq, kEq1, hx, s_add (l := tableOf l) (m := [120]) (by simp; omega)]
    refine (curNew_t _).mono ?_
    rintro v Y1 ⟨rfl, rfl⟩
    have hky1 : Kp H3.next H3 (H3.push (RdB (tableOf l ++ [120]) false)) := Kp.push (Nat.le_refl _)
    have hry1 : Rd (H3.push (RdB (tableOf l ++ [120]) false)) H3.next (tableOf l ++ [120]) false := get_last
    have hny1 : (H3.push (RdB (tableOf l ++ [120]) false)).next = H3.next + 1 := next_push
    generalize H3.push (RdB (tableOf l ++ [120]) false) = Y1 at *
    try simp
    refine (Read_t hry1 (by simp; omega)).mono ?_
    rintro v Y2 ⟨hny2, holdy2, hvy2⟩
    rw [if_pos hb1, hb2, hb3] at hvy2
    obtain ⟨w2, rfl, hiy2, hry2⟩ := hvy2
    have his3 : Is Y2 (.slice a0 l.length c0) l := by
      have hh := his2.kp hky1
      have hk : Kp H3.next Y1 Y2 := ⟨hny2, fun k hk => holdy2 k (by omega) (by omega)⟩
      rcases hh with h | ⟨b, o, c, cs, rw, q1, q2, q3, q4⟩
      · exact .inl h
      · refine .inr ⟨b, o, c, cs, rw, q1, q2, ?_, q4⟩
        have hbl : b < H3.next := by
          rcases his2 with ⟨h, _⟩ | ⟨b', o', c', cs', rw', r1, r2, r3, r4⟩
          · rw [h] at q1; cases q1
          · rw [r1] at q1; cases q1; exact lt_cells r3
        rw [hk.2 b hbl]; exact q3
    simp
    refine (rTable_t his3 hlen (right_all hr) (whole_pos hw)).mono ?_
    rintro v Y3 ⟨rfl, hky3⟩
    simp [s_neq]
    refine (rShort_t (his3.kp hky3) (by omega)).mono ?_
    rintro w4 Y4 ⟨rfl, hiy4⟩
    have hsl := short_len l
    have hsn := shortN_le l
    try simp
    refine (same10_t (hiy2.kp hky3) hiy4 (by omega)).mono ?_
    rintro v Y5 ⟨rfl, rfl⟩
    simp
    have hry5 : Rd Y5 H3.next [120] false := (hky3.2 _ hry2.lt).trans hry2
    refine (Rest_t hry5).mono ?_
    rintro v Y6 ⟨rfl, _⟩
    simp [hx, s_neq]
    refine (curNew_t s).mono ?_
    rintro v X1 ⟨rfl, rfl⟩
    have hrd1 : Rd (Y6.push (RdB s false)) Y6.next s false := get_last
    generalize Y6.push (RdB s false) = X1 at *
    try simp
    refine (Read_t hrd1 (by omega)).mono ?_
    rintro v X2 ⟨hn5, hold5, hv5⟩
    by_cases hro : rok s
    · rw [if_pos hro] at hv5
      obtain ⟨v5, rfl, hi5, hr5⟩ := hv5
      simp
      refine (rRead_t s (by omega)).mono ?_
      rintro v X3 ⟨hk6, hv6⟩
      unfold RR at hv6
      rw [if_pos hro] at hv6
      obtain ⟨v6, rfl, hi6⟩ := hv6
      have hp : (0 : Int) < atN s := by unfold atN; omega
      have hp' : 0 < atN s := by unfold atN; omega
      simp [kEq, kEq1, hp, hp']
      refine (same10_t (hi5.kp hk6) hi6 (by have := hdN_bd s; rw [nibs_len]; omega)).mono ?_
      rintro v X4 ⟨rfl, rfl⟩
      have hfl : (0 : Int) ≤ atN s ∧ (atN s : Int) ≤ s.length := by have := hro.2.1; omega
      have hfr : ∀ {K : Kv}, run S (.slS (.c (.string (ofL s))) (some (.c (.int .i64 (atN s)))) none) [] X4 K = K (.string (ofL (s.drop (atN s)))) X4 := fun {K} => by
        rw [s_from, if_pos hfl]; simp
      simp [hfr]
      have hr6 : Rd X4 Y6.next (s.drop (atN s)) false := (hk6.2 _ hr5.lt).trans hr5
      refine (Rest_t hr6).mono ?_
      rintro v X5 ⟨rfl, _⟩
      simp [s_eql]
    · rw [if_neg hro] at hv5
      subst hv5
      simp
      refine (rRead_t s (by omega)).mono ?_
      rintro v X3 ⟨hk6, hv6⟩
      unfold RR at hv6
      rw [if_neg hro] at hv6
      subst hv6
      simp [kEq, kEq1]
      refine (same10_t (l := []) (.inl ⟨rfl, rfl⟩) (.inl ⟨rfl, rfl⟩) (by simp)).mono ?_
      rintro v X4 ⟨rfl, rfl⟩
      simp
  · simp [hw]
    refine (rWhole_t hiv2 hm).mono ?_
    rintro v H3 ⟨rfl, rfl⟩
    simp [hw, kEq, kEq1]
    refine (curNew_t s).mono ?_
    rintro v X1 ⟨rfl, rfl⟩
    have hrd1 : Rd (H3.push (RdB s false)) H3.next s false := get_last
    generalize H3.push (RdB s false) = X1 at *
    try simp
    refine (Read_t hrd1 (by omega)).mono ?_
    rintro v X2 ⟨hn5, hold5, hv5⟩
    by_cases hro : rok s
    · rw [if_pos hro] at hv5
      obtain ⟨v5, rfl, hi5, hr5⟩ := hv5
      simp
      refine (rRead_t s (by omega)).mono ?_
      rintro v X3 ⟨hk6, hv6⟩
      unfold RR at hv6
      rw [if_pos hro] at hv6
      obtain ⟨v6, rfl, hi6⟩ := hv6
      have hp : (0 : Int) < atN s := by unfold atN; omega
      have hp' : 0 < atN s := by unfold atN; omega
      simp [kEq, kEq1, hp, hp']
      refine (same10_t (hi5.kp hk6) hi6 (by have := hdN_bd s; rw [nibs_len]; omega)).mono ?_
      rintro v X4 ⟨rfl, rfl⟩
      have hfl : (0 : Int) ≤ atN s ∧ (atN s : Int) ≤ s.length := by have := hro.2.1; omega
      have hfr : ∀ {K : Kv}, run S (.slS (.c (.string (ofL s))) (some (.c (.int .i64 (atN s)))) none) [] X4 K = K (.string (ofL (s.drop (atN s)))) X4 := fun {K} => by
        rw [s_from, if_pos hfl]; simp
      simp [hfr]
      have hr6 : Rd X4 H3.next (s.drop (atN s)) false := (hk6.2 _ hr5.lt).trans hr5
      refine (Rest_t hr6).mono ?_
      rintro v X5 ⟨rfl, _⟩
      simp [s_eql]
    · rw [if_neg hro] at hv5
      subst hv5
      simp
      refine (rRead_t s (by omega)).mono ?_
      rintro v X3 ⟨hk6, hv6⟩
      unfold RR at hv6
      rw [if_neg hro] at hv6
      subst hv6
      simp [kEq, kEq1]
      refine (same10_t (l := []) (.inl ⟨rfl, rfl⟩) (.inl ⟨rfl, rfl⟩) (by simp)).mono ?_
      rintro v X4 ⟨rfl, rfl⟩
      simp
end Go.Proofs.Ytpcpelbbeofenaa.K
namespace Go.Proofs.Ytpcpelbbeofenaa.litcodeTables
open Go Go.Proofs Go.ChangeShapes Go.WideShapes Go.ChangeAt Go.RowKit
theorem own : ownKnob Try.prog.godebug = none := by kernel_rfl
theorem laid : laidOutB Try.prog = true := by kernel_rfl
set_option maxRecDepth 100000 in
theorem lifted (os : Os) (started : os.Started) (H : Type) (enc : TypeId × Value → H) :
    ReturnsInHanded {} Try.checked os 8 .any (Rows.litcodeTablesSpec.pre6 enc Try.prog Try.f8 Rows.litcodeTablesRow.domain false) (Rows.litcodeTablesSpec.post enc Try.prog Try.f8 false true false false) := by
  refine returnsInHanded_of_change (C := Try.checked) own started (by kernel_rfl) Try.func8
    (ChangeSpec.witness6 (enc := enc) (C := Try.checked) false ⟨#[], #[.slice none 0 0, .string ⟨#[]⟩], []⟩ 8 (by kernel_rfl) (by kernel_rfl) (by kernel_rfl) (by kernel_rfl)) ?_
  intro W base args ds gs before hval0 hW hcnd _
  have hval : ∀ (j : Nat) t v, Try.f8.params[j]? = some t → args[j]? = some v → Value.okWide Try.prog W .any base t v := hval0
  have hW' := hW
  obtain ⟨p, q, hA0, hV, rfl, hfz, hnd⟩ := hW
  have hA : DataW.TrodAll enc Try.prog W 0 (fun _ => true) true Try.f8.params.toList args.toList ds p := hA0
  rw [Try.params8] at hA hval
  have hA1 := hA
  obtain ⟨v0, vs0, d0, ds0, p0, q0, hargs, rfl, rfl, h0, r0⟩ := trodAll_cons hA
  obtain ⟨v1, vs1, d1, ds1, p1, q1, rfl, rfl, rfl, h1, r1⟩ := trodAll_cons r0
  obtain ⟨rfl, rfl, rfl⟩ := trodAll_nil r1
  obtain rfl : args = #[v0, v1] := by cases args; simp_all
  obtain ⟨rfl, rfl⟩ := trodVars_none hV
  have HR0 := K.HRel.nil (P := Try.prog) W
  have hn0 : ∀ b : Nat, (K.Heap.get [] b).own = false := fun b => rfl
  obtain ⟨a0, b0, ρ1, p1x, x0, HR1, hn1, w0⟩ := K.arg_slice (e := 3) (d := 6) (ks := [.int .i64]) Try.underlying47 (by kernel_rfl) (by kernel_rfl) (by decide) (hval 0 47 v0 rfl rfl) h0 HR0 hn0
  obtain ⟨a1, rfl, w1⟩ := K.arg_str Try.underlying9 (hval 1 9 v1 rfl rfl) h1
  clear hA0 hval0
  refine (K.calls_of K.S_ok (K.lawTables a0 b0 a1 w0 w1) HR1 (K.VL.cons x0 (K.VL.cons (K.VRel.string a1) K.VL.nil))).mono fun e W' ⟨he, hb⟩ => ?_
  subst he
  exact ⟨_, rfl, K.post_of_below (pa := _) (pv := []) hW' (fun _ _ _ => (trodAll_cons_mk (shut_bool Try.underlying4 _) trodAll_mk0)) (fun sp hsp => K.trodAll_stays laid hb hA1 (by
      intro t ht
      replace ht : t ∈ ([47, 9] : List TypeId) := ht
      simp only [List.mem_cons, List.not_mem_nil, or_false] at ht
      rcases ht with rfl | rfl <;> exact ⟨by kernel_rfl, of_decide_eq_true (by kernel_rfl)⟩) (fun x hx => hW'.lt x (by simpa using hx)) (fun x hx => hsp x (by simpa using hx))) (fun _ _ => rfl) rfl
    hb (ok_one (by kernel_rfl) rfl (okWide_bool_mk Try.underlying4 _))⟩
theorem over : Rows.litcodeTablesRow.holds Try.pinned (OpenSpec.ofChange Rows.litcodeTablesSpec) :=
  OpenClaim.holds_of_wide 8 Try.f8 rfl rfl rfl rfl rfl rfl rfl ⟨rfl, rfl, rfl, rfl, rfl⟩ rfl rfl rfl rfl rfl (by kernel_rfl) Try.func8 (by kernel_rfl)
    (of_decide_eq_true (by kernel_rfl)) (by unfold Func.isWrapper; first | (rw [if_pos (by decide +kernel)]; kernel_rfl) | (rw [if_neg (by decide +kernel)]; exact ⟨rfl, rfl⟩))
    (fun os started H enc _ => lifted os started H enc)
theorem proved : Rows.LitcodeTablesSaid :=
  over
end Go.Proofs.Ytpcpelbbeofenaa.litcodeTables
