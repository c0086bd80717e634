/- The statement HuffCosts: the cost of any lengths for any counts, or that they don't fit, is the document's. Proved for every two lists. Condition: none. -/
import Derived.Test.YtpcpelbbeofenaaPHuffF
import Derived.Test.YtpcpelbbeofenaaRows
import Derived.WalkKit
import Derived.ProofKit
import Derived.OpenShut
set_option maxRecDepth 100000
set_option maxHeartbeats 2000000
set_option linter.unusedVariables false
set_option linter.unusedSimpArgs false
namespace Go.Proofs.Ytpcpelbbeofenaa.K
open Go Go.Proofs
def cbad (c l : List Int) (k : Nat) : Prop := 0 < at0 c k ∧ at0 l k = 0
instance (c l : List Int) (k : Nat) : Decidable (cbad c l k) := by unfold cbad; infer_instance
def NoBad (c l : List Int) (i : Nat) : Prop := ∀ k, k < i → ¬ cbad c l k
instance (c l : List Int) (i : Nat) : Decidable (NoBad c l i) := by unfold NoBad; infer_instance
def prod (c l : List Int) (k : Nat) : Int := at0 c k * at0 l k
def costT (c l : List Int) : Value := if NoBad c l c.length then .tuple #[.int .i64 (sumTo (prod c l) c.length), .bool true] else .tuple #[.int .i64 0, .bool false]
theorem costT_bad {c l : List Int} {i : Nat} (hi : i < c.length) (h : cbad c l i) : costT c l = .tuple #[.int .i64 0, .bool false] := by
  unfold costT; rw [if_neg fun hn => hn i hi h]
theorem nobad_succ {c l : List Int} {i : Nat} (h : NoBad c l i) (hb : ¬ cbad c l i) : NoBad c l (i + 1) := fun k hk => by
  by_cases e : k = i
  · subst e; exact hb
  · exact h k (by omega)
theorem prod_bd {c l : List Int} (hc : AllC c) (hl : ∀ k, 0 ≤ at0 l k ∧ at0 l k ≤ 11) (k : Nat) : 0 ≤ prod c l k ∧ prod c l k ≤ 11534336 := by
  have h1 := allc_at0 hc k
  have h2 := hl k
  unfold prod
  constructor
  · exact Int.mul_nonneg h1.1 h2.1
  · have a : at0 c k * at0 l k ≤ 1048576 * at0 l k := Int.mul_le_mul_of_nonneg_right h1.2 h2.1
    omega
theorem psum_bd {c l : List Int} (hc : AllC c) (hl : ∀ k, 0 ≤ at0 l k ∧ at0 l k ≤ 11) (i : Nat) : 0 ≤ sumTo (prod c l) i ∧ sumTo (prod c l) i ≤ 11534336 * i := by
  induction i with
  | zero => simp [sumTo]
  | succ i ih => have := prod_bd hc hl i; simp only [sumTo]; omega
theorem cright_all {c : List Int} (h : cright c = true) : AllC c ∧ c.length ≤ 256 := by
  simp only [cright, Bool.and_eq_true, decide_eq_true_eq] at h
  exact ⟨h.1, h.2.2⟩
section
variable {H : Heap} {a1 a2 : Option Addr} {c1 c2 : Nat} {c l : List Int}
theorem Cost_t (hc : Iv H a1 c) (hl : Iv H a2 l) (hm1 : (c.length : Int) ≤ 9223372036854775807) (hm2 : (l.length : Int) ≤ 9223372036854775807) :
    Wf S 71 [.slice a1 c.length c1, .slice a2 l.length c2] H fun v H' => H' = H ∧ v = if cright c = true ∧ c.length ≤ l.length ∧ rightB l = true then costT c l else .tuple #[.int .i64 0, .bool false] := by
  refine w71 rfl rfl _ _ ?_
  simp [s71]
  refine (cRight_t hc hm1).mono ?_
  rintro v H1 ⟨rfl, rfl⟩
  by_cases g1 : cright c = true
  · by_cases g2 : c.length ≤ l.length
    · have g2' : ¬ (l.length : Int) < c.length := by omega
      have g2'' : ¬ l.length < c.length := by omega
      simp [g1, g2', g2'']
      refine (right_t hl hm2).mono ?_
      rintro v H2 ⟨rfl, rfl⟩
      by_cases g3 : rightB l = true
      · obtain ⟨hall, hlen⟩ := cright_all g1
        have hla := right_all g3
        simp [g1, g2, g3]
        refine l71_0 S (fun d e H' => ∃ i : Nat, i ≤ c.length ∧ d = c.length - i ∧ H' = H2 ∧ e 1 = .slice a2 l.length c2 ∧ e 6 = .int .i64 (sumTo (prod c l) i) ∧ e 24 = .slice a1 c.length c1 ∧ e 25 = .int .i64 c.length ∧ e 26 = .int .i64 i ∧ NoBad c l i) c.length ⟨0, by omega, by omega, rfl, by simp, by simp [sumTo], by simp, by simp, by simp, fun k hk => by omega⟩ ?_
        rintro d e H' ⟨i, hi, rfl, rfl, e1, e6, e24, e25, e26, hnb⟩
        by_cases h3 : i < c.length
        · obtain ⟨b1, o1, cs1, rw1, rfl, hg1, hcs1⟩ := hc (by omega)
          obtain ⟨b2, o2, cs2, rw2, rfl, hg2, hcs2⟩ := hl (by omega)
          obtain ⟨x, hx⟩ : ∃ x, c[i]? = some x := ⟨_, List.getElem?_eq_getElem h3⟩
          obtain ⟨y, hy⟩ : ∃ y, l[i]? = some y := ⟨_, List.getElem?_eq_getElem (by omega)⟩
          have hcx := hcs1 i x hx
          have hcy := hcs2 i y hy
          have hil : i < l.length := by omega
          have hax := at0_of hx
          have hay := at0_of hy
          have hw : IntKind.i64.wrap ((i : Int) + 1) = (i : Int) + 1 := wi (by omega) (by omega)
          have hp := prod_bd hall hla i
          have hs := psum_bd hall hla i
          have hpe : prod c l i = x * y := by unfold prod; rw [hax, hay]
          rw [hpe] at hp
          have hw2 : IntKind.i64.wrap (x * y) = x * y := wi (by omega) (by omega)
          have hw3 : IntKind.i64.wrap (sumTo (prod c l) i + x * y) = sumTo (prod c l) i + x * y := wi (by omega) (by omega)
          by_cases q1 : 0 < x
          · by_cases q2 : y = 0
            · have hb : cbad c l i := by unfold cbad; rw [hax, hay]; exact ⟨q1, q2⟩
              rw [costT_bad h3 hb]
              subst q2
              simp [s71_0, e1, e6, e24, e25, e26, h3, hil, addOff, hg1, hg2, hcx, hcy, q1, tup]
            · have hb : ¬ cbad c l i := by unfold cbad; rw [hax, hay]; exact fun h => q2 h.2
              simp [s71_0, e1, e6, e24, e25, e26, h3, hil, addOff, hg1, hg2, hcx, hcy, q1, q2, hw, hw2, hw3]
              exact ⟨c.length - (i + 1), by omega, i + 1, by omega, rfl, by simp [sumTo, hpe], by omega, nobad_succ hnb hb⟩
          · have hb : ¬ cbad c l i := by unfold cbad; rw [hax]; exact fun h => q1 h.1
            simp [s71_0, e1, e6, e24, e25, e26, h3, hil, addOff, hg1, hg2, hcx, hcy, q1, hw, hw2, hw3]
            exact ⟨c.length - (i + 1), by omega, i + 1, by omega, rfl, by simp [sumTo, hpe], by omega, nobad_succ hnb hb⟩
        · have h5 : i = c.length := by omega
          subst h5
          simp [s71_0, e6, e25, e26, tup, costT, hnb]
      · simp [g1, g2, g3, tup]
    · have g2' : (l.length : Int) < c.length := by omega
      have g2'' : l.length < c.length := by omega
      simp [g1, g2, g2', g2'', tup]
  · simp [g1, tup]
theorem rCost_t (hc : Iv H a1 c) (hl : Iv H a2 l) (g1 : cright c = true) (g2 : c.length ≤ l.length) (g3 : rightB l = true) :
    Wf S 74 [.slice a1 c.length c1, .slice a2 l.length c2] H fun v H' => H' = H ∧ v = costT c l := by
  refine w74 rfl rfl _ _ ?_
  obtain ⟨hall, hlen⟩ := cright_all g1
  have hla := right_all g3
  simp [s74]
  refine l74_0 S (fun d e H' => ∃ i : Nat, i ≤ c.length ∧ d = c.length - i ∧ H' = H ∧ e 0 = .slice a1 c.length c1 ∧ e 1 = .slice a2 l.length c2 ∧ e 6 = .int .i64 (sumTo (prod c l) i) ∧ e 7 = .int .i64 i ∧ NoBad c l i) c.length ⟨0, by omega, by omega, rfl, by simp, by simp, by simp [sumTo], by simp, fun k hk => by omega⟩ ?_
  rintro d e H' ⟨i, hi, rfl, rfl, e0, e1, e6, e7, hnb⟩
  by_cases h3 : i < c.length
  · obtain ⟨b1, o1, cs1, rw1, rfl, hg1, hcs1⟩ := hc (by omega)
    obtain ⟨b2, o2, cs2, rw2, rfl, hg2, hcs2⟩ := hl (by omega)
    obtain ⟨x, hx⟩ : ∃ x, c[i]? = some x := ⟨_, List.getElem?_eq_getElem h3⟩
    obtain ⟨y, hy⟩ : ∃ y, l[i]? = some y := ⟨_, List.getElem?_eq_getElem (by omega)⟩
    have hcx := hcs1 i x hx
    have hcy := hcs2 i y hy
    have hil : i < l.length := by omega
    have hax := at0_of hx
    have hay := at0_of hy
    have hw : IntKind.i64.wrap ((i : Int) + 1) = (i : Int) + 1 := wi (by omega) (by omega)
    have hp := prod_bd hall hla i
    have hs := psum_bd hall hla i
    have hpe : prod c l i = x * y := by unfold prod; rw [hax, hay]
    rw [hpe] at hp
    have hw2 : IntKind.i64.wrap (x * y) = x * y := wi (by omega) (by omega)
    have hw3 : IntKind.i64.wrap (sumTo (prod c l) i + x * y) = sumTo (prod c l) i + x * y := wi (by omega) (by omega)
    by_cases q1 : 0 < x
    · by_cases q2 : y = 0
      · have hb : cbad c l i := by unfold cbad; rw [hax, hay]; exact ⟨q1, q2⟩
        rw [costT_bad h3 hb]
        subst q2
        simp [s74_0, e0, e1, e6, e7, h3, hil, addOff, hg1, hg2, hcx, hcy, q1, tup]
      · have hb : ¬ cbad c l i := by unfold cbad; rw [hax, hay]; exact fun h => q2 h.2
        simp [s74_0, e0, e1, e6, e7, h3, hil, addOff, hg1, hg2, hcx, hcy, q1, q2, hw, hw2, hw3]
        exact ⟨c.length - (i + 1), by omega, i + 1, by omega, rfl, by simp [sumTo, hpe], by omega, nobad_succ hnb hb⟩
    · have hb : ¬ cbad c l i := by unfold cbad; rw [hax]; exact fun h => q1 h.1
      simp [s74_0, e0, e1, e6, e7, h3, hil, addOff, hg1, hg2, hcx, hcy, q1, hw, hw2, hw3]
      exact ⟨c.length - (i + 1), by omega, i + 1, by omega, rfl, by simp [sumTo, hpe], by omega, nobad_succ hnb hb⟩
  · have h5 : i = c.length := by omega
    subst h5
    simp [s74_0, e0, e6, e7, tup, costT, hnb]
end
theorem lawCosts (kv : Value) (blk : Blk) (kv2 : Value) (blk2 : Blk) (hk : ArgSl [.int .i64] 3 0 kv blk) (hk2 : ArgSl [.int .i64] 3 1 kv2 blk2) : Wf S 15 [kv, kv2] [blk, blk2] fun v _ => v = .bool true := by
  obtain ⟨a1, c1, c, rfl, hm1, _, ha1⟩ := arg_ints hk
  obtain ⟨a2, c2, l, rfl, hm2, _, ha2⟩ := arg_ints hk2
  refine w15 rfl rfl _ _ ?_
  simp [s15]
  refine (aw2' blk blk2).mono ?_
  rintro v H1 ⟨rfl, hb1, hb2⟩
  by_cases h3 : (260 : Int) < c.length
  · simp [h3]
  by_cases h4 : (260 : Int) < l.length
  · simp [h3, h4]
  have hc := iv_of ha1 hb1
  have hl := iv_of ha2 hb2
  simp [h3, h4]
  refine (Cost_t (c1 := c1) (c2 := c2) hc hl hm1 hm2).mono ?_
  rintro v H2 ⟨rfl, rfl⟩
  by_cases g1 : cright c = true
  · by_cases g2 : c.length ≤ l.length
    · have g2' : ¬ (l.length : Int) < c.length := by omega
      have g2'' : ¬ l.length < c.length := by omega
      by_cases g3 : rightB l = true
      · have hcost : (if cright c = true ∧ c.length ≤ l.length ∧ rightB l = true then costT c l else .tuple #[.int .i64 0, .bool false]) = costT c l := if_pos ⟨g1, g2, g3⟩
        rw [hcost]
        have hrc := rCost_t (c1 := c1) (c2 := c2) hc hl g1 g2 g3
        unfold costT at hrc ⊢
        by_cases hn : NoBad c l c.length
        · simp only [hn, if_true] at hrc ⊢
          simp
          refine (r5Right_t hc hm1).mono ?_
          rintro v H3 ⟨rfl, rfl⟩
          simp [g1, g2', g2'']
          refine (rright_t hl hm2).mono ?_
          rintro v H4 ⟨rfl, rfl⟩
          simp [g3]
          refine hrc.mono ?_
          rintro v H5 ⟨rfl, rfl⟩
          simp [kEq, kEq1]
        · simp only [hn, if_false] at hrc ⊢
          simp
          refine (r5Right_t hc hm1).mono ?_
          rintro v H3 ⟨rfl, rfl⟩
          simp [g1, g2', g2'']
          refine (rright_t hl hm2).mono ?_
          rintro v H4 ⟨rfl, rfl⟩
          simp [g3]
          refine hrc.mono ?_
          rintro v H5 ⟨rfl, rfl⟩
          simp [kEq, kEq1]
      · simp [g1, g2, g3]
        refine (r5Right_t hc hm1).mono ?_
        rintro v H3 ⟨rfl, rfl⟩
        simp [g1, g2', g2'']
        refine (rright_t hl hm2).mono ?_
        rintro v H4 ⟨rfl, rfl⟩
        simp [g3]
    · have g2' : (l.length : Int) < c.length := by omega
      have g2'' : l.length < c.length := by omega
      simp [g1, g2]
      refine (r5Right_t hc hm1).mono ?_
      rintro v H3 ⟨rfl, rfl⟩
      simp [g1, g2', g2'']
  · simp [g1]
    refine (r5Right_t hc hm1).mono ?_
    rintro v H3 ⟨rfl, rfl⟩
    simp [g1]
end Go.Proofs.Ytpcpelbbeofenaa.K
namespace Go.Proofs.Ytpcpelbbeofenaa.huffCosts
open Go Go.Proofs Go.ChangeShapes Go.WideShapes Go.ChangeAt Go.RowKit
theorem own : ownKnob Try.prog.godebug = none := by kernel_rfl
theorem laid : laidOutB Try.prog = true := by kernel_rfl
set_option maxRecDepth 100000 in
theorem lifted (os : Os) (started : os.Started) (H : Type) (enc : TypeId × Value → H) :
    ReturnsInHanded {} Try.checked os 15 .any (Rows.huffCostsSpec.pre6 enc Try.prog Try.f15 Rows.huffCostsRow.domain false) (Rows.huffCostsSpec.post enc Try.prog Try.f15 false true false false) := by
  refine returnsInHanded_of_change (C := Try.checked) own started (by kernel_rfl) Try.func15
    (ChangeSpec.witness6 (enc := enc) (C := Try.checked) false ⟨#[], #[.slice none 0 0, .slice none 0 0], []⟩ 8 (by kernel_rfl) (by kernel_rfl) (by kernel_rfl) (by kernel_rfl)) ?_
  intro W base args ds gs before hval0 hW hcnd _
  have hval : ∀ (j : Nat) t v, Try.f15.params[j]? = some t → args[j]? = some v → Value.okWide Try.prog W .any base t v := hval0
  have hW' := hW
  obtain ⟨p, q, hA0, hV, rfl, hfz, hnd⟩ := hW
  have hA : DataW.TrodAll enc Try.prog W 0 (fun _ => true) true Try.f15.params.toList args.toList ds p := hA0
  rw [Try.params15] at hA hval
  have hA1 := hA
  obtain ⟨v0, vs0, d0, ds0, p0, q0, hargs, rfl, rfl, h0, r0⟩ := trodAll_cons hA
  obtain ⟨v1, vs1, d1, ds1, p1, q1, rfl, rfl, rfl, h1, r1⟩ := trodAll_cons r0
  obtain ⟨rfl, rfl, rfl⟩ := trodAll_nil r1
  obtain rfl : args = #[v0, v1] := by cases args; simp_all
  obtain ⟨rfl, rfl⟩ := trodVars_none hV
  have HR0 := K.HRel.nil (P := Try.prog) W
  have hn0 : ∀ b : Nat, (K.Heap.get [] b).own = false := fun b => rfl
  obtain ⟨a0, b0, ρ1, p1x, x0, HR1, hn1, w0⟩ := K.arg_slice (e := 3) (d := 6) (ks := [.int .i64]) Try.underlying47 (by kernel_rfl) (by kernel_rfl) (by decide) (hval 0 47 v0 rfl rfl) h0 HR0 hn0
  obtain ⟨a1, b1, ρ2, p2x, x1, HR2, hn2, w1⟩ := K.arg_slice (e := 3) (d := 6) (ks := [.int .i64]) Try.underlying47 (by kernel_rfl) (by kernel_rfl) (by decide) (hval 1 47 v1 rfl rfl) h1 HR1 hn1
  clear hA0 hval0
  refine (K.calls_of K.S_ok (K.lawCosts a0 b0 a1 b1 w0 w1) HR2 (K.VL.cons (x0.mono p2x) (K.VL.cons x1 K.VL.nil))).mono fun e W' ⟨he, hb⟩ => ?_
  subst he
  exact ⟨_, rfl, K.post_of_below (pa := _) (pv := []) hW' (fun _ _ _ => (trodAll_cons_mk (shut_bool Try.underlying4 _) trodAll_mk0)) (fun sp hsp => K.trodAll_stays laid hb hA1 (by
      intro t ht
      replace ht : t ∈ ([47, 47] : List TypeId) := ht
      simp only [List.mem_cons, List.not_mem_nil, or_false] at ht
      rcases ht with rfl | rfl <;> exact ⟨by kernel_rfl, of_decide_eq_true (by kernel_rfl)⟩) (fun x hx => hW'.lt x (by simpa using hx)) (fun x hx => hsp x (by simpa using hx))) (fun _ _ => rfl) rfl
    hb (ok_one (by kernel_rfl) rfl (okWide_bool_mk Try.underlying4 _))⟩
theorem over : Rows.huffCostsRow.holds Try.pinned (OpenSpec.ofChange Rows.huffCostsSpec) :=
  OpenClaim.holds_of_wide 15 Try.f15 rfl rfl rfl rfl rfl rfl rfl ⟨rfl, rfl, rfl, rfl, rfl⟩ rfl rfl rfl rfl rfl (by kernel_rfl) Try.func15 (by kernel_rfl)
    (of_decide_eq_true (by kernel_rfl)) (by unfold Func.isWrapper; first | (rw [if_pos (by decide +kernel)]; kernel_rfl) | (rw [if_neg (by decide +kernel)]; exact ⟨rfl, rfl⟩))
    (fun os started H enc _ => lifted os started H enc)
theorem proved : Rows.HuffCostsSaid :=
  over
end Go.Proofs.Ytpcpelbbeofenaa.huffCosts
