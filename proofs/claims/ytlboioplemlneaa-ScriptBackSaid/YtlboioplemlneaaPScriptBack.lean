/- The statement ScriptBack: acts as bytes, or that one may not be, are the document's, and are decoded as they were. Proved for every list of acts. Condition: none. -/
import Derived.Test.YtlboioplemlneaaPScrF
import Derived.Test.YtlboioplemlneaaRows
import Derived.WalkKit
import Derived.ProofKit
import Derived.OpenShut
set_option maxRecDepth 100000
set_option maxHeartbeats 4000000
set_option linter.unusedVariables false
set_option linter.unusedSimpArgs false
namespace Go.Proofs.Ytlboioplemlneaa.K
open Go Go.Proofs
structure BSJ (H0 : Heap) (a : Option Addr) (c : Nat) (L : List Ac) (d : Nat) (e : Fe) (H : Heap) (i : Nat) : Prop where
  h1 : i ≤ L.length
  h2 : d = L.length - i
  kp : Kp H0.next H0 H
  w : ∃ p : Bytes, e 3 = .string (ofL p) ∧ p.length ≤ 630 * i ∧ (allF (L.take i) = true → p = (L.take i).flatMap actB)
  e4 : e 4 = .bool (allF (L.take i))
  e0 : e 0 = .slice a L.length c
  e17 : e 17 = .slice a L.length c
  e18 : e 18 = .int .i64 L.length
  e19 : e 19 = .int .i64 i
theorem allF_succ {L : List Ac} {i : Nat} {x : Ac} (h : L[i]? = some x) : allF (L.take (i + 1)) = (allF (L.take i) && x.fits) := by
  unfold allF; rw [List.take_add_one, h]; simp
theorem lawBack (kv : Value) (blk : Blk) (hk : ArgSl [.int .i64, .int .i64, .int .i64, .bool, .str] 25 0 kv blk) : Wf S 3 [kv] [blk] fun v _ => v = .bool true := by
  obtain ⟨a, c, L, rfl, hm, hdl, hav0⟩ := arg_acts hk
  refine w3 rfl rfl _ ?_
  simp [s3]
  refine (awb' blk).mono ?_
  rintro v H1 ⟨rfl, hblk⟩
  have hav := hav0 H1 hblk
  by_cases h3 : (60 : Int) < L.length
  · simp [h3]
  simp [h3]
  refine l3_0 S (fun d e H' => ∃ i, BSJ H1 a c L d e H' i) L.length ⟨0, by omega, by omega, Kp.refl _ _, ⟨[], by simp [bs_ofL], by simp, by simp⟩, by simp [allF], by simp, by simp, by simp, by simp⟩ ?_
  rintro d e H2 ⟨i, hi, rfl, hkp, ⟨p, e3, hpl, hp⟩, e4, e0, e17, e18, e19⟩
  have hav2 := hav.kp hkp
  by_cases h4 : i < L.length
  · have h4' : (i : Int) < L.length := by omega
    obtain ⟨b, rw, rfl, hg⟩ := hav2 (by omega)
    obtain ⟨x, hx⟩ : ∃ x, L[i]? = some x := ⟨_, List.getElem?_eq_getElem h4⟩
    have hrd := acts_rd hx
    have hxd := hdl x (List.mem_of_getElem? hx)
    have w2 : IntKind.i64.wrap ((i : Int) + 1) = (i : Int) + 1 := wi (by omega) (by omega)
    have hld : kLdn H2 5 (.pointer (some ⟨b, i * 5, none⟩)) = some (.agg x.cells.toArray) := by simp [kLdn, hg, hrd]
    have bsz : (.string (bs []) : Value) = .string ⟨#[]⟩ := rfl
    have hst : kStn (H2.push (.cells [.int .i64 0, .int .i64 0, .int .i64 0, .bool false, .string ⟨#[]⟩] 25 true)) 5 (.pointer (some ⟨H2.next, 0, none⟩)) (.agg x.cells.toArray) = some (H2.push (.cells x.cells 25 true)) := by
      have := get_last (H := H2) (b := .cells [.int .i64 0, .int .i64 0, .int .i64 0, .bool false, .string ⟨#[]⟩] 25 true)
      simp [kStn, this, Ac.cells, wr]
    obtain ⟨H3, hH3⟩ : ∃ H3, H3 = H2.push (.cells x.cells 25 true) := ⟨_, rfl⟩
    rw [← hH3] at hst
    have g3 : H3.get H2.next = .cells [.int .i64 x.kind, .int .i64 x.node, .int .i64 x.n, .bool x.up, .string (ofL x.data)] 25 true := by rw [hH3]; exact get_last
    have n3 : H3.next = H2.next + 1 := by rw [hH3]; exact next_push
    have k3 : Kp H2.next H2 H3 := by rw [hH3]; exact Kp.push (Nat.le_refl _)
    have hld3 : ∀ H', H'.get H2.next = H3.get H2.next → kLdn H' 5 (.pointer (some ⟨H2.next, 0, none⟩)) = some (.agg x.cells.toArray) := fun H' h => by simp [kLdn, h, g3, rd, Ac.cells]
    have hld33 := hld3 H3 rfl
    by_cases h7 : (700 : Int) < x.data.length
    · simp [s3_0, e0, e3, e4, e17, e18, e19, h4, h4', addOff, hld, bsz, hst, g3, ofL_size, h7]
    simp [s3_0, e0, e3, e4, e17, e18, e19, h4, h4', addOff, hld, bsz, hst, g3, ofL_size, h7, hld33]
    refine (Fits_t x).mono ?_
    rintro v H4 ⟨hk4, rfl⟩
    have hld4 := hld3 H4 (hk4.2 _ (by omega))
    have hve : veq (.agg x.cells.toArray) (.agg x.cells.toArray) = true := by simp [veq, Ac.cells, veqL, veq1]
    have hck : kop (.ldn 5 (.c (.pointer (some ⟨H2.next, 0, none⟩)))) [] H4 = some (.agg x.cells.toArray, H4) := by
      show (kLdn H4 5 (.pointer (some ⟨H2.next, 0, none⟩))).map (·, H4) = _
      rw [hld4]; rfl
    simp [ck, hck, hve]
    refine (rFits_t x).mono ?_
    rintro v H5 ⟨hk5, rfl⟩
    have hld5 := hld3 H5 ((hk5.2 _ (by have := hk4.1; omega)).trans (hk4.2 _ (by omega)))
    have hn4 := hk4.1
    have hn5 := hk5.1
    simp [kEq, kEq1, hld5]
    refine (rFits_t x).mono ?_
    rintro v H6 ⟨hk6, rfl⟩
    have hn6 := hk6.1
    have hld6 := hld3 H6 ((hk6.2 _ (by omega)).trans ((hk5.2 _ (by omega)).trans (hk4.2 _ (by omega))))
    have hsx := allF_succ hx
    have kp6 : Kp H1.next H1 H6 := hkp.trans ((k3.mono hkp.1).trans ((hk4.mono (by have := hkp.1; omega)).trans ((hk5.mono (by have := hkp.1; omega)).trans (hk6.mono (by have := hkp.1; omega)))))
    have htk : L.take (i + 1) = L.take i ++ [x] := by rw [List.take_add_one, hx]; rfl
    cases hfx : x.fits with
    | false =>
      rw [hfx, Bool.and_false] at hsx
      simp [e3, e19, w2]
      exact ⟨L.length - (i + 1), by omega, i + 1, by omega, rfl, kp6, ⟨p, by simp [e3], by omega, by rw [hsx]; simp⟩, by simp [hsx], by simp [e0], by simp [e17], by simp [e18], by simp⟩
    | true =>
      rw [hfx, Bool.and_true] at hsx
      cases hall : allF (L.take i) with
      | false =>
        rw [hall] at hsx
        simp [e4, hall, e3, e19, w2]
        exact ⟨L.length - (i + 1), by omega, i + 1, by omega, rfl, kp6, ⟨p, by simp [e3], by omega, by rw [hsx]; simp⟩, by simp [hsx, e4, hall], by simp [e0], by simp [e17], by simp [e18], by simp⟩
      | true =>
        rw [hall] at hsx
        have hp' := hp hall
        have hxl := (actB_len hfx).2
        simp [e4, hall, e3, hld6]
        refine (rBytes_t x hfx).mono ?_
        rintro v H7 ⟨hk7, rfl⟩
        have ha := s_add (l := p) (m := actB x) (by omega)
        simp [ha, e19, w2]
        refine ⟨L.length - (i + 1), by omega, i + 1, by omega, rfl, kp6.trans (hk7.mono (by have := kp6.1; omega)), ⟨p ++ actB x, by simp, by rw [List.length_append]; omega, fun _ => by rw [hp', htk]; simp⟩, by simp [hsx, e4, hall], by simp [e0], by simp [e17], by simp [e18], by simp⟩
  · have h5 : i = L.length := by omega
    subst h5
    rw [List.take_length] at hp e4
    simp [s3_0, e18, e19]
    rw [e0]
    refine (sEncode_t (c := c) hav2 (by omega)).mono ?_
    rintro v H3 ⟨hk3, h⟩
    rcases h with ⟨hall, rfl⟩ | ⟨hall, rfl⟩
    · have hp' := hp hall
      rw [hall] at e4
      have hfs : ∀ y ∈ L, y.fits = true := by unfold allF at hall; rw [List.all_eq_true] at hall; exact hall
      have hal := acts_len hfs
      simp [e4]
      refine (sDecode_t (by omega)).mono ?_
      rintro v H4 ⟨hk4, i, M, k, hst, hv⟩
      have hback := stS_back hfs L.length (Nat.le_refl _)
      rw [List.take_length] at hback
      have hn0 : pA ((L.flatMap actB).drop (L.flatMap actB).length) = none := by rw [List.drop_length]; rfl
      have hend : pA ((L.flatMap actB).drop k) = none := by
        rcases hv with ⟨rfl, _⟩ | ⟨_, h, _⟩
        · exact hn0
        · exact h
      obtain ⟨rfl, rfl⟩ := stS_end hst hend hback hn0
      rcases hv with ⟨_, w, rfl, hA⟩ | ⟨h6, _⟩
      · obtain ⟨a1, c1, rfl, hav5⟩ := hA.av
        have hav4 := (hav2.kp hk3).kp hk4
        simp [e3, hp', s_eql, e0]
        refine (same33_t (c := c1) (c2 := c) hav5 hav4 (by omega)).mono ?_
        rintro v H5 ⟨rfl, rfl⟩
        simp
      · omega
    · rw [hall] at e4
      simp [e4, bs_ofL, s_eql]
end Go.Proofs.Ytlboioplemlneaa.K
namespace Go.Proofs.Ytlboioplemlneaa.scriptBack
open Go Go.Proofs Go.ChangeShapes Go.WideShapes Go.ChangeAt Go.RowKit
theorem own : ownKnob Try.prog.godebug = none := by kernel_rfl
theorem laid : laidOutB Try.prog = true := by kernel_rfl
set_option maxRecDepth 100000 in
theorem lifted (os : Os) (started : os.Started) (H : Type) (enc : TypeId × Value → H) :
    ReturnsInHanded {} Try.checked os 3 .any (Rows.scriptBackSpec.pre6 enc Try.prog Try.f3 Rows.scriptBackRow.domain false) (Rows.scriptBackSpec.post enc Try.prog Try.f3 false true false false) := by
  refine returnsInHanded_of_change (C := Try.checked) own started (by kernel_rfl) Try.func3
    (ChangeSpec.witness6 (enc := enc) (C := Try.checked) false ⟨#[], #[.slice none 0 0], []⟩ 8 (by kernel_rfl) (by kernel_rfl) (by kernel_rfl) (by kernel_rfl)) ?_
  intro W base args ds gs before hval0 hW hcnd _
  have hval : ∀ (j : Nat) t v, Try.f3.params[j]? = some t → args[j]? = some v → Value.okWide Try.prog W .any base t v := hval0
  have hW' := hW
  obtain ⟨p, q, hA0, hV, rfl, hfz, hnd⟩ := hW
  have hA : DataW.TrodAll enc Try.prog W 0 (fun _ => true) true Try.f3.params.toList args.toList ds p := hA0
  rw [Try.params3] at hA hval
  have hA1 := hA
  obtain ⟨v0, vs0, d0, ds0, p0, q0, hargs, rfl, rfl, h0, r0⟩ := trodAll_cons hA
  obtain ⟨rfl, rfl, rfl⟩ := trodAll_nil r0
  obtain rfl : args = #[v0] := by cases args; simp_all
  obtain ⟨rfl, rfl⟩ := trodVars_none hV
  have HR0 := K.HRel.nil (P := Try.prog) W
  have hn0 : ∀ b : Nat, (K.Heap.get [] b).own = false := fun b => rfl
  obtain ⟨a0, b0, ρ1, p1x, x0, HR1, hn1, w0⟩ := K.arg_slice (e := 25) (d := 6) (ks := [.int .i64, .int .i64, .int .i64, .bool, .str]) Try.underlying22 (by kernel_rfl) (by kernel_rfl) (by decide) (hval 0 22 v0 rfl rfl) h0 HR0 hn0
  clear hA0 hval0
  refine (K.calls_of K.S_ok (K.lawBack a0 b0 w0) HR1 (K.VL.cons x0 K.VL.nil)).mono fun e W' ⟨he, hb⟩ => ?_
  subst he
  exact ⟨_, rfl, K.post_of_below (pa := _) (pv := []) hW' (fun _ _ _ => (trodAll_cons_mk (shut_bool Try.underlying4 _) trodAll_mk0)) (fun sp hsp => K.trodAll_stays laid hb hA1 (by
      intro t ht
      replace ht : t ∈ ([22] : List TypeId) := ht
      simp only [List.mem_cons, List.not_mem_nil, or_false] at ht
      subst ht; exact ⟨by kernel_rfl, of_decide_eq_true (by kernel_rfl)⟩) (fun x hx => hW'.lt x (by simpa using hx)) (fun x hx => hsp x (by simpa using hx))) (fun _ _ => rfl) rfl
    hb (ok_one (by kernel_rfl) rfl (okWide_bool_mk Try.underlying4 _))⟩
theorem over : Rows.scriptBackRow.holds Try.pinned (OpenSpec.ofChange Rows.scriptBackSpec) :=
  OpenClaim.holds_of_wide 3 Try.f3 rfl rfl rfl rfl rfl rfl rfl ⟨rfl, rfl, rfl, rfl, rfl⟩ rfl rfl rfl rfl rfl (by kernel_rfl) Try.func3 (by kernel_rfl)
    (of_decide_eq_true (by kernel_rfl)) (by unfold Func.isWrapper; first | (rw [if_pos (by decide +kernel)]; kernel_rfl) | (rw [if_neg (by decide +kernel)]; exact ⟨rfl, rfl⟩))
    (fun os started H enc _ => lifted os started H enc)
theorem proved : Rows.ScriptBackSaid :=
  over
end Go.Proofs.Ytlboioplemlneaa.scriptBack
