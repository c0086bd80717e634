/- The statement HuffPrefix: no code begins another one. Proved for every list of lengths. Condition: none. -/
import Derived.Test.YtpcpelbbeofenaaPHuffE
import Derived.Test.YtpcpelbbeofenaaRows
import Derived.WalkKit
import Derived.ProofKit
import Derived.OpenShut
set_option maxRecDepth 100000
set_option maxHeartbeats 2000000
set_option linter.unusedVariables false
set_option linter.unusedSimpArgs false
namespace Go.Proofs.Ytpcpelbbeofenaa.K
open Go Go.Proofs
/-- a code, and the one that it would begin with -/
theorem pre_ne {l : List Int} (hall : ∀ k, 0 ≤ at0 l k ∧ at0 l k ≤ 11) {i k : Nat} (hi : i < l.length) (hk : k < l.length) (h1 : 0 < at0 l i) (h2 : 0 < at0 l k) (h3 : at0 l i ≤ at0 l k) (hne : i ≠ k) :
    (codeOf l k).fdiv (p2 (at0 l k - at0 l i).toNat) ≠ codeOf l i := by
  have hp2 := p2_pos (at0 l k - at0 l i).toNat
  rw [Int.fdiv_eq_ediv_of_nonneg _ (by omega)]
  obtain ⟨_, ei⟩ := codeOf_div hi h1 (hall i).2
  obtain ⟨_, ek⟩ := codeOf_div hk h2 (hall k).2
  have hpk := part_pos (at0 l k)
  have hpi := part_pos (at0 l i)
  -- the part of the shorter one is so many parts of the longer one
  have hpart : part (at0 l i) = p2 (at0 l k - at0 l i).toNat * part (at0 l k) := by
    unfold part
    rw [← p2_add]
    congr 1
    have := hall k
    omega
  have hck : 0 ≤ codeOf l k := by
    rcases Int.lt_or_le (codeOf l k) 0 with h | h
    · have := Int.mul_neg_of_neg_of_pos h hpk
      have := ahead_nonneg l (at0 l k) k
      omega
    · exact h
  intro he
  -- between the two
  have hlo : codeOf l i * p2 (at0 l k - at0 l i).toNat ≤ codeOf l k := by rw [← he]; exact Int.ediv_mul_le _ (by omega)
  have hhi : codeOf l k < (codeOf l i + 1) * p2 (at0 l k - at0 l i).toNat := by rw [← he]; exact Int.lt_ediv_add_one_mul_self _ hp2
  have hlo' : ahead l (at0 l i) i ≤ ahead l (at0 l k) k := by
    rw [← ei, ← ek, hpart, ← Int.mul_assoc]
    exact Int.mul_le_mul_of_nonneg_right hlo (by omega)
  have hhi' : ahead l (at0 l k) k < ahead l (at0 l i) i + part (at0 l i) := by
    have := Int.mul_lt_mul_of_pos_right hhi hpk
    rw [ek, Int.mul_assoc, ← hpart, Int.add_mul, ei, Int.one_mul] at this
    exact this
  rcases Int.lt_or_le (at0 l i) (at0 l k) with h | h
  · have := ahead_lt hi h1 (.inl h)
    omega
  · have heq : at0 l i = at0 l k := by omega
    rcases Nat.lt_or_ge i k with hik | hik
    · have := ahead_lt hi h1 (.inr ⟨heq, hik⟩)
      omega
    · have := ahead_lt hk h2 (.inr ⟨heq.symm, by omega⟩)
      omega
theorem code_lt {l : List Int} (hall : ∀ k, 0 ≤ at0 l k ∧ at0 l k ≤ 11) {i : Nat} (hi : i < l.length) (h1 : 0 < at0 l i) (ht : total l ≤ 2048) : 0 ≤ codeOf l i ∧ codeOf l i < p2 (at0 l i).toNat := by
  obtain ⟨_, ei⟩ := codeOf_div hi h1 (hall i).2
  have hpi := part_pos (at0 l i)
  have he := ahead_end hi h1
  have hn := ahead_nonneg l (at0 l i) i
  constructor
  · rcases Int.lt_or_le (codeOf l i) 0 with h | h
    · have := Int.mul_neg_of_neg_of_pos h hpi
      omega
    · exact h
  · rcases Int.lt_or_le (codeOf l i) (p2 (at0 l i).toNat) with h | h
    · exact h
    · have h2 : p2 (at0 l i).toNat * part (at0 l i) ≤ codeOf l i * part (at0 l i) := Int.mul_le_mul_of_nonneg_right h (by omega)
      have h3 : p2 (at0 l i).toNat * part (at0 l i) = 2048 := by
        unfold part
        rw [← p2_add]
        have := hall i
        have : (at0 l i).toNat + (11 - at0 l i).toNat = 11 := by omega
        rw [this]; decide
      omega
theorem whole_tot {l : List Int} (h : wholeB l = true) : total l ≤ 2048 := by
  simp only [wholeB, Bool.and_eq_true, Bool.or_eq_true, decide_eq_true_eq] at h
  rcases h.2 with h | h <;> omega
section
variable {H : Heap} {a : Option Addr} {c b : Nat} {l : List Int}
structure PX (H : Heap) (a : Option Addr) (c b : Nat) (l : List Int) (i : Nat) (x : Int) (e : Fe) : Prop where
  e0 : e 0 = .slice a l.length c
  e3 : e 3 = .slice (some ⟨b, 0, none⟩) l.length l.length
  e5 : e 5 = .int .i64 i
  e6 : e 6 = .int .i64 x
  e18 : e 18 = .slice a l.length c
  e19 : e 19 = .int .i64 l.length
  e20 : e 20 = .int .i64 i
theorem in_t {i : Nat} {x : Int} {e : Fe} {Q : Kx} (hl : Iv H a l) (ho : Own H b (codes l)) (hlen : l.length ≤ 256) (hall : ∀ k, 0 ≤ at0 l k ∧ at0 l k ≤ 11) (hx : l[i]? = some x) (hp : PX H a c b l i x e) (e25 : e 25 = .slice a l.length c) (e26 : e 26 = .int .i64 l.length) (e27 : e 27 = .int .i64 0)
    (hQ : ∀ e', PX H a c b l i x e' → Q (.exit 2) e' H) : WL S b14_1 e H Q := by
  refine l14_1 S (fun d e H' => ∃ k : Nat, k ≤ l.length ∧ d = l.length - k ∧ H' = H ∧ PX H a c b l i x e ∧ e 25 = .slice a l.length c ∧ e 26 = .int .i64 l.length ∧ e 27 = .int .i64 k) l.length ⟨0, by omega, by omega, rfl, hp, e25, e26, e27⟩ ?_
  rintro d e H' ⟨k, hk, rfl, rfl, ⟨e0, e3, e5, e6, e18, e19, e20⟩, e25, e26, e27⟩
  by_cases h3 : k < l.length
  · obtain ⟨b1, o, cs, rw, rfl, hg, hc⟩ := hl (by omega)
    obtain ⟨y, hy⟩ : ∃ y, l[k]? = some y := ⟨_, List.getElem?_eq_getElem h3⟩
    have hcy := hc k y hy
    have hi := (List.getElem?_eq_some_iff.1 hx).1
    have hax := at0_of hx
    have hay := at0_of hy
    have hxb := hall i
    rw [hax] at hxb
    have hyb := hall k
    rw [hay] at hyb
    have ho' : H'.get b = .cells (ints (codes l)) 3 true := ho
    have hw : IntKind.i64.wrap ((k : Int) + 1) = (k : Int) + 1 := wi (by omega) (by omega)
    have hok : (ints (codes l))[k]? = some (.int .i64 (codeOf l k)) := by simp [ints, codes, h3]
    have hoi : (ints (codes l))[i]? = some (.int .i64 (codeOf l i)) := by simp [ints, codes, hi]
    have hend : ∀ e' : Fe, e' 0 = .slice (some ⟨b1, o, none⟩) l.length c → True := fun _ _ => trivial
    by_cases g1 : x = 0
    · simp [s14_1, e25, e26, e27, e6, h3, addOff, hg, hcy, g1, hw]
      exact ⟨l.length - (k + 1), by omega, k + 1, by omega, rfl, ⟨by simp [e0], by simp [e3], by simp [e5], by simp [e6, g1], by simp [e18], by simp [e19], by simp [e20]⟩, by omega⟩
    by_cases g2 : y = 0
    · simp [s14_1, e25, e26, e27, e6, h3, addOff, hg, hcy, g1, g2, hw]
      exact ⟨l.length - (k + 1), by omega, k + 1, by omega, rfl, ⟨by simp [e0], by simp [e3], by simp [e5], by simp [e6], by simp [e18], by simp [e19], by simp [e20]⟩, by omega⟩
    by_cases g3 : y < x
    · simp [s14_1, e25, e26, e27, e6, h3, addOff, hg, hcy, g1, g2, g3, hw]
      exact ⟨l.length - (k + 1), by omega, k + 1, by omega, rfl, ⟨by simp [e0], by simp [e3], by simp [e5], by simp [e6], by simp [e18], by simp [e19], by simp [e20]⟩, by omega⟩
    by_cases g4 : i = k
    · simp [s14_1, e25, e26, e27, e5, e6, h3, addOff, hg, hcy, g1, g2, g3, g4, hw]
      exact ⟨l.length - (k + 1), by omega, k + 1, by omega, rfl, ⟨by simp [e0], by simp [e3], by simp [e5, g4], by simp [e6], by simp [e18], by simp [e19], by simp [e20, g4]⟩, by omega⟩
    · have hne := pre_ne hall hi h3 (by rw [hax]; omega) (by rw [hay]; omega) (by rw [hax, hay]; omega) g4
      rw [hax, hay] at hne
      have hw2 : IntKind.i64.wrap (y - x) = y - x := wi (by omega) (by omega)
      have hng : ¬ y - x < 0 := by omega
      have hmin : min (y - x).toNat IntKind.i64.bits = (y - x).toNat := by
        have : IntKind.i64.bits = 64 := rfl
        omega
      have hpw : (2 : Int) ^ (y - x).toNat = p2 (y - x).toNat := rfl
      have hik : ¬ (i : Int) = k := by omega
      simp [s14_1, e3, e25, e26, e27, e5, e6, h3, hi, addOff, hg, hcy, g1, g2, g3, g4, hik, ho', hok, hoi, kb_shr, hw2, hng, hmin, hpw, hne, hw]
      exact ⟨l.length - (k + 1), by omega, k + 1, by omega, rfl, ⟨by simp [e0], by simp [e3], by simp [e5], by simp [e6], by simp [e18], by simp [e19], by simp [e20]⟩, by omega⟩
  · have h5 : k = l.length := by omega
    subst h5
    simp [s14_1, e26, e27]
    exact hQ _ ⟨by simp [e0], by simp [e3], by simp [e5], by simp [e6], by simp [e18], by simp [e19], by simp [e20]⟩
end
theorem lawPrefix (kv : Value) (blk : Blk) (hk : ArgSl [.int .i64] 3 0 kv blk) : Wf S 14 [kv] [blk] fun v _ => v = .bool true := by
  obtain ⟨a, c, l, rfl, hm, _, ha⟩ := arg_ints hk
  refine w14 rfl rfl _ ?_
  simp [s14]
  refine (aw' blk).mono ?_
  rintro v H1 ⟨rfl, hblk⟩
  have hl := iv_of ha hblk
  simp
  refine (Codes_t hl hm).mono ?_
  rintro v H3 ⟨hk3, hv⟩
  have hl3 := hl.kp hk3
  rcases hv with ⟨hw, rfl⟩ | ⟨hw, b, rfl, hb, ho⟩
  · simp
  · have hr : rightB l = true := by simp only [wholeB, Bool.and_eq_true] at hw; exact hw.1
    have hlen := right_len hr
    have hall := right_all hr
    have htot := whole_tot hw
    simp
    refine l14_0 S (fun d e H' => ∃ i : Nat, i ≤ l.length ∧ d = l.length - i ∧ H' = H3 ∧ e 0 = .slice a l.length c ∧ e 3 = .slice (some ⟨b, 0, none⟩) l.length l.length ∧ e 18 = .slice a l.length c ∧ e 19 = .int .i64 l.length ∧ e 20 = .int .i64 i) l.length ⟨0, by omega, by omega, rfl, by simp, by simp, by simp, by simp, by simp⟩ ?_
    rintro d e H' ⟨i, hi, rfl, rfl, e0, e3, e18, e19, e20⟩
    by_cases h3 : i < l.length
    · have hl4 := hl3
      obtain ⟨b1, o, cs, rw, rfl, hg, hc⟩ := hl3 (by omega)
      obtain ⟨x, hx⟩ : ∃ x, l[i]? = some x := ⟨_, List.getElem?_eq_getElem h3⟩
      have hcx := hc i x hx
      have hax := at0_of hx
      have hxb := hall i
      rw [hax] at hxb
      have hw1 : IntKind.i64.wrap ((i : Int) + 1) = (i : Int) + 1 := wi (by omega) (by omega)
      simp [s14_0, e0, e3, e18, e19, e20, h3, addOff, hg, hcx]
      refine in_t (i := i) (x := x) (c := c) (b := b) hl4 ho hlen hall hx ⟨by simp [e0], by simp [e3], by simp, by simp, by simp [e18], by simp [e19], by simp [e20]⟩ (by simp) (by simp) (by simp) ?_
      intro e' ⟨f0, f3, f5, f6, f18, f19, f20⟩
      have ho' : H'.get b = .cells (ints (codes l)) 3 true := ho
      have hoi : (ints (codes l))[i]? = some (.int .i64 (codeOf l i)) := by simp [ints, codes, h3]
      by_cases g1 : 0 < x
      · obtain ⟨q1, q2⟩ := code_lt hall h3 (by rw [hax]; exact g1) htot
        rw [hax] at q2
        have hng : ¬ x < 0 := by omega
        have hmin : min x.toNat IntKind.i64.bits = x.toNat := by
          have : IntKind.i64.bits = 64 := rfl
          omega
        have hpw : (2 : Int) ^ x.toNat = p2 x.toNat := rfl
        have hpb := p2_mono (a := x.toNat) (b := 11) (by omega)
        have hp11 : p2 11 = 2048 := by decide
        have hpp := p2_pos x.toNat
        have hw2 : IntKind.i64.wrap (p2 x.toNat) = p2 x.toNat := wi (by omega) (by omega)
        have q3 : ¬ codeOf l i < 0 := by omega
        have q4 : ¬ p2 x.toNat ≤ codeOf l i := by omega
        simp [f0, f3, f5, f6, f18, f19, f20, g1, h3, addOff, ho', hoi, kb_shl, hng, hmin, hpw, hw2, q3, q4, hw1]
        exact ⟨l.length - (i + 1), by omega, i + 1, by omega, rfl, by omega⟩
      · simp [f0, f3, f5, f6, f18, f19, f20, g1, hw1]
        exact ⟨l.length - (i + 1), by omega, i + 1, by omega, rfl, by omega⟩
    · have h5 : i = l.length := by omega
      subst h5
      simp [s14_0, e19, e20]
end Go.Proofs.Ytpcpelbbeofenaa.K
namespace Go.Proofs.Ytpcpelbbeofenaa.huffPrefix
open Go Go.Proofs Go.ChangeShapes Go.WideShapes Go.ChangeAt Go.RowKit
theorem own : ownKnob Try.prog.godebug = none := by kernel_rfl
theorem laid : laidOutB Try.prog = true := by kernel_rfl
set_option maxRecDepth 100000 in
theorem lifted (os : Os) (started : os.Started) (H : Type) (enc : TypeId × Value → H) :
    ReturnsInHanded {} Try.checked os 14 .any (Rows.huffPrefixSpec.pre6 enc Try.prog Try.f14 Rows.huffPrefixRow.domain false) (Rows.huffPrefixSpec.post enc Try.prog Try.f14 false true false false) := by
  refine returnsInHanded_of_change (C := Try.checked) own started (by kernel_rfl) Try.func14
    (ChangeSpec.witness6 (enc := enc) (C := Try.checked) false ⟨#[], #[.slice none 0 0], []⟩ 8 (by kernel_rfl) (by kernel_rfl) (by kernel_rfl) (by kernel_rfl)) ?_
  intro W base args ds gs before hval0 hW hcnd _
  have hval : ∀ (j : Nat) t v, Try.f14.params[j]? = some t → args[j]? = some v → Value.okWide Try.prog W .any base t v := hval0
  have hW' := hW
  obtain ⟨p, q, hA0, hV, rfl, hfz, hnd⟩ := hW
  have hA : DataW.TrodAll enc Try.prog W 0 (fun _ => true) true Try.f14.params.toList args.toList ds p := hA0
  rw [Try.params14] at hA hval
  have hA1 := hA
  obtain ⟨v0, vs0, d0, ds0, p0, q0, hargs, rfl, rfl, h0, r0⟩ := trodAll_cons hA
  obtain ⟨rfl, rfl, rfl⟩ := trodAll_nil r0
  obtain rfl : args = #[v0] := by cases args; simp_all
  obtain ⟨rfl, rfl⟩ := trodVars_none hV
  have HR0 := K.HRel.nil (P := Try.prog) W
  have hn0 : ∀ b : Nat, (K.Heap.get [] b).own = false := fun b => rfl
  obtain ⟨a0, b0, ρ1, p1x, x0, HR1, hn1, w0⟩ := K.arg_slice (e := 3) (d := 6) (ks := [.int .i64]) Try.underlying47 (by kernel_rfl) (by kernel_rfl) (by decide) (hval 0 47 v0 rfl rfl) h0 HR0 hn0
  clear hA0 hval0
  refine (K.calls_of K.S_ok (K.lawPrefix a0 b0 w0) HR1 (K.VL.cons x0 K.VL.nil)).mono fun e W' ⟨he, hb⟩ => ?_
  subst he
  exact ⟨_, rfl, K.post_of_below (pa := _) (pv := []) hW' (fun _ _ _ => (trodAll_cons_mk (shut_bool Try.underlying4 _) trodAll_mk0)) (fun sp hsp => K.trodAll_stays laid hb hA1 (by
      intro t ht
      replace ht : t ∈ ([47] : List TypeId) := ht
      simp only [List.mem_cons, List.not_mem_nil, or_false] at ht
      subst ht; exact ⟨by kernel_rfl, of_decide_eq_true (by kernel_rfl)⟩) (fun x hx => hW'.lt x (by simpa using hx)) (fun x hx => hsp x (by simpa using hx))) (fun _ _ => rfl) rfl
    hb (ok_one (by kernel_rfl) rfl (okWide_bool_mk Try.underlying4 _))⟩
theorem over : Rows.huffPrefixRow.holds Try.pinned (OpenSpec.ofChange Rows.huffPrefixSpec) :=
  OpenClaim.holds_of_wide 14 Try.f14 rfl rfl rfl rfl rfl rfl rfl ⟨rfl, rfl, rfl, rfl, rfl⟩ rfl rfl rfl rfl rfl (by kernel_rfl) Try.func14 (by kernel_rfl)
    (of_decide_eq_true (by kernel_rfl)) (by unfold Func.isWrapper; first | (rw [if_pos (by decide +kernel)]; kernel_rfl) | (rw [if_neg (by decide +kernel)]; exact ⟨rfl, rfl⟩))
    (fun os started H enc _ => lifted os started H enc)
theorem proved : Rows.HuffPrefixSaid :=
  over
end Go.Proofs.Ytpcpelbbeofenaa.huffPrefix
