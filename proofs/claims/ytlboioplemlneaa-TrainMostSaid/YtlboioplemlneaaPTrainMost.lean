/- The statement TrainMost: pieces are chosen by what they are worth: none is worth more than the one ahead; what nothing comes again of has no dictionary. Proved for all records and sizes. Condition: none. -/
import Derived.Test.YtlboioplemlneaaPF
import Derived.Test.YtlboioplemlneaaRows
import Derived.WalkKit
import Derived.ProofKit
import Derived.OpenShut
set_option maxRecDepth 100000
set_option maxHeartbeats 4000000
set_option linter.unusedVariables false
set_option linter.unusedSimpArgs false
namespace Go.Proofs.Ytlboioplemlneaa.K
open Go Go.Proofs
/-- each piece was worth something where it was chosen, and no more than the one ahead -/
theorem Pk.most {rs : List Bytes} {size : Int} {taken out : List Bytes} (h : Pk rs size taken out) : ∃ more, out = taken ++ more ∧ (∀ i s, more[i]? = some s → 1 ≤ worthS (WG rs (taken ++ more.take i)) s ∧ s ∈ pcs rs) ∧
    ∀ i s t, more[i + 1]? = some s → more[i]? = some t → worthS (WG rs (taken ++ more.take (i + 1))) s ≤ worthS (WG rs (taken ++ more.take i)) t := by
  induction h with
  | stop => exact ⟨[], by simp, fun i s h => by simp at h, fun i s t h => by simp at h⟩
  | @step size taken out w p hp hw hl hn ih =>
    obtain ⟨more, rfl, h1, h2⟩ := ih
    have hwp : w = worthS (WG rs taken) p ∧ p ∈ pcs rs := by
      rcases pickF_mem (WG rs taken) (pcs rs) (0, []) with h2 | ⟨q, hq, h2⟩
      · rw [hp] at h2; simp only [Prod.mk.injEq] at h2; omega
      · rw [hp] at h2; simp only [Prod.mk.injEq] at h2; rw [h2.2]; exact ⟨h2.1, hq⟩
    refine ⟨p :: more, by simp, fun i s hs => ?_, fun i s t hs ht => ?_⟩
    · cases i with
      | zero => simp at hs; subst hs; simp; exact ⟨by omega, hwp.2⟩
      | succ i =>
        have := h1 i s (by simpa using hs)
        simpa using this
    · cases i with
      | zero =>
        simp at ht; subst ht
        have hs' : more[0]? = some s := by simpa using hs
        have hm := (h1 0 s hs').2
        have hge := (pickF_ge (WG rs taken) (pcs rs) (0, [])).2 s hm
        rw [hp] at hge
        have hmono := worthS_mono (WG_le rs taken p) s
        simp at hge ⊢
        omega
      | succ i =>
        have := h2 i s t (by simpa using hs) (by simpa using ht)
        simpa using this
theorem one_none {rs : List Bytes} (h : rs.length ≤ 1) (taken : List Bytes) (s : Bytes) : worthS (WG rs taken) s = 0 := by
  have h0 : ∀ g, WG rs taken g ≤ 0 := fun g => by
    have := cntG_le rs g
    unfold WG WG0; split <;> omega
  have := sum_bd h0 (gramsL s)
  unfold sW at this
  unfold worthS
  omega
structure MoI (HB : Heap) (v0 v5 : Value) (out : List Bytes) (d : Nat) (e : Fe) (H : Heap) (i : Nat) : Prop where
  hd : d = out.length - i
  hi : i ≤ out.length
  kp : Kp HB.next HB H
  e0 : e 0 = v0
  e5 : e 5 = v5
  e17 : e 17 = v5
  e18 : e 18 = .int .i64 out.length
  e19 : e 19 = .int .i64 i
theorem kop_slc {H : Heap} {v x : Value} {m : Nat} (h : ∀ K : Kv, run S (.slc 9 1 (.c v) none (some (.c (.int .i64 m)))) [] H K = K x H) : kop (.slc 9 1 (.c v) none (some (.c (.int .i64 (m : Int))))) [] H = some (x, H) := by
  have h1 := h fun x' H' => x' = x ∧ H' = H
  have h2 : oT (kop (.slc 9 1 (.c v) none (some (.c (.int .i64 (m : Int))))) [] H) (fun x' H' => x' = x ∧ H' = H) := by
    show run S (.slc 9 1 (.c v) none (some (.c (.int .i64 m)))) [] H _
    rw [h1]; exact ⟨rfl, rfl⟩
  revert h2
  generalize kop _ _ _ = y
  intro h2
  cases y with
  | none => exact h2.elim
  | some p => obtain ⟨q1, q2⟩ := p; obtain ⟨rfl, rfl⟩ := h2; rfl
theorem slice_veq (a : Option Addr) (n c : Nat) : veq (.slice a n c) (.slice a n c) = true := by simp [veq, veq1]
theorem str_veq (s : ByteArray) : veq (.string s) (.string s) = true := by simp [veq, veq1]
/-- a cut -/
def cutV (v : Value) (m : Nat) : Value :=
  match v with
  | .slice none _ _ => .slice none 0 0
  | .slice (some a) _ c => .slice (some a) m c
  | v => v
theorem SIs.cutE {H : Heap} {v : Value} {l : List Bytes} (h : SIs H v l) {m : Nat} (hm : m ≤ l.length) (K : Kv) : run S (.slc 9 1 (.c v) none (some (.c (.int .i64 m)))) [] H K = K (cutV v m) H := by
  rcases h with ⟨rfl, rfl⟩ | ⟨b, o, c, cs, rw', rfl, hc, hg, hx⟩
  · obtain rfl : m = 0 := by simpa using hm
    show oT ((kSlc H 9 1 (.slice none 0 0) 0 (some ((0 : Nat) : Int))).map (·, H)) K = _
    simp [kSlc, capx, cutV]
  · show oT ((kSlc H 9 1 (.slice (some ⟨b, o, none⟩) l.length c) 0 (some (m : Int))).map (·, H)) K = _
    by_cases hcx : c = capx
    · simp only [kSlc, hg, if_true, hcx, Option.getD_some]
      rw [if_pos ⟨Int.le_refl _, by omega, by omega⟩]
      simp [addOff, cutV]
    · have hcl : l.length ≤ c := by rcases hc with h | h; exact absurd h hcx; exact h
      simp only [kSlc, hg, if_true, hcx, if_false, Option.getD_some]
      rw [if_pos ⟨Int.le_refl _, by omega, by omega⟩]
      have : (if (0 : Int).toNat = c then (⟨b, o, none⟩ : Addr) else addOff ⟨b, o, none⟩ ((0 : Int).toNat * 1)) = ⟨b, o, none⟩ := by split <;> simp [addOff]
      rw [this]
      simp [cutV]
theorem SIs.cutS {H : Heap} {v : Value} {l : List Bytes} (h : SIs H v l) {m : Nat} (hm : m ≤ l.length) : ∃ a c, cutV v m = .slice a (l.take m).length c ∧ Sv H a (l.take m) := by
  have hml : (l.take m).length = m := by rw [List.length_take]; omega
  rcases h with ⟨rfl, rfl⟩ | ⟨b, o, c, cs, rw', rfl, hc, hg, hx⟩
  · obtain rfl : m = 0 := by simpa using hm
    exact ⟨none, 0, rfl, fun hp => by simp at hp⟩
  · exact ⟨_, c, by rw [hml]; rfl, Sv.take (fun _ => ⟨b, o, cs, rw', rfl, hg, hx⟩) m⟩
theorem lawMost (kv : Value) (blk : Blk) (size : Int) (hk : ArgSl [.str] 9 0 kv blk) (hnw : (Lit.int .i64 size).wf = true) : Wf S 9 [kv, .int .i64 size] [blk] fun v _ => v = .bool true := by
  obtain ⟨l, hn, hx, hsi⟩ := arg_texts hk
  refine w9 rfl rfl _ _ ?_
  simp [s9]
  refine (awT' blk).mono ?_
  rintro v H1 ⟨rfl, hblk⟩
  have hl := hsi H1 hblk
  simp
  refine (small_t hl hn hx (by omega) (by omega)).mono ?_
  rintro v H2 ⟨rfl, t, rfl, ht⟩
  cases t with
  | false => simp
  | true =>
    obtain ⟨h1, h2⟩ := ht rfl
    simp
    refine (Pieces_t hl (by omega)).mono ?_
    rintro v3 H3 ⟨hk3, out, ob, ho, hob, hpk, hol⟩
    have hl3 := hl.kp hk3
    have hbr := brL_len (l := l)
    obtain ⟨more, hmo, hm1, hm2⟩ := hpk.most
    rw [List.nil_append] at hmo
    subst hmo
    simp only [List.nil_append] at hm1 hm2
    have hone : l.length ≤ 1 → out.length = 0 := fun h => by
      rcases Nat.eq_zero_or_pos out.length with h0 | h0
      · exact h0
      · have := (hm1 0 _ (List.getElem?_eq_getElem h0)).1
        rw [one_none (by unfold brL; simp; omega)] at this
        omega
    have hosi : SIs H3 v3 out := by
      rcases ho with ⟨rfl, rfl, rfl⟩ | ⟨b, rfl, rfl, hg⟩
      · exact .inl ⟨rfl, rfl⟩
      · exact .inr ⟨b, 0, capx, strs out, true, rfl, .inl rfl, hg, fun i x hx => by rw [Nat.zero_add]; exact strs_get hx⟩
    have hlen := fun (H : Heap) (h : SIs H v3 out) (K : Kv) => h.len (S := S) (K := K)
    have hlenl := fun (H : Heap) (h : SIs H kv l) (K : Kv) => h.len (S := S) (K := K)
    try simp
    rw [hlen H3 hosi]
    refine l9_0 S (fun d e H' => ∃ i, MoI H3 kv v3 out d e H' i) out.length ⟨0, by omega, by omega, Kp.refl _ _, by simp, by simp, by simp, by simp, by simp⟩ ?_
    rintro d e H4 ⟨i, rfl, hi, hkp, e0, e5, e17, e18, e19⟩
    have hos4 := hosi.kp hkp
    have hl4 := hl3.kp hkp
    by_cases h3 : i < out.length
    · obtain ⟨s, hs⟩ : ∃ s, out[i]? = some s := ⟨_, List.getElem?_eq_getElem h3⟩
      obtain ⟨a3, c3, hv3, hsv3⟩ := hos4.sv
      obtain ⟨b, o, cs, rw', ha3, hg, hcs⟩ := hsv3 (by omega)
      have hcr := hcs i s hs
      have h3' : (i : Int) < out.length := by omega
      have w2 : IntKind.i64.wrap ((i : Int) + 1) = ((i + 1 : Nat) : Int) := by rw [wi (by omega) (by omega)]; omega
      obtain ⟨hw1, hmem⟩ := hm1 i s hs
      have hsl := pcs_mem hmem
      obtain ⟨W, hW⟩ : ∃ W, W = worthS (WG (brL l) (out.take i)) s := ⟨_, rfl⟩
      have hcut := hos4.cutE (m := i) (by omega)
      obtain ⟨a5, c5, hc5, hsv5⟩ := hos4.cutS (m := i) (by omega)
      have hsz : ∀ j, ∀ r ∈ out.take j, r.length ≤ 100000 := fun j r hr => by
        obtain ⟨q, hq⟩ := List.mem_iff_getElem?.1 (List.mem_of_mem_take hr)
        have := (pcs_mem (hm1 q r hq).2).2; omega
      have hiad : ∀ (H : Heap) (j : Nat) (K : Kv), j < out.length → run S (.iad 1 (.c v3) (.c (.int .i64 (j : Int)))) [] H K = K (.pointer (some ⟨b, o + j, none⟩)) H := fun H j K hj => by
        rw [hv3, ha3, run_iad, if_pos (by omega)]
        simp [addOff]
      simp [s9_0, e0, e5, e17, e18, e19, h3, h3']
      rw [hiad _ _ _ h3]
      simp [hg, hcr]
      rw [hcut]
      refine (rBrought_t hl4 (by omega)).mono ?_
      rintro v5 H5 ⟨hk5, hA5⟩
      obtain ⟨a6, c6, rfl, hsv6⟩ := hA5.sv rfl
      have hos5 := hos4.kp hk5
      have hck := kop_slc (hos5.cutE (m := i) (by omega))
      simp only [ck, hck, oT_some]
      rw [hc5]
      refine ⟨slice_veq _ _ _, ?_⟩
      have hrw := rWorth_t (H := H5) (a := a6) (c := c6) (a2 := a5) (c2 := c5) (rs := brL l) (tk := out.take i) (s := s) hsv6 (hsv5.kp hk5) hbr.1 (fun r hr => by have := hbr.2 r hr; omega) (by rw [List.length_take]; omega) (hsz i) (by omega)
      refine hrw.mono ?_
      rintro v6 H6 ⟨rfl, rfl⟩
      rw [← hW] at hw1 ⊢
      have q1 : ¬ (W : Int) < 1 := by omega
      have q1' : ¬ W < 1 := by omega
      have q1'' : ¬ W = 0 := by omega
      have q2 : ¬ (s.length : Int) < 6 := by omega
      have q2' : ¬ s.length < 6 := by omega
      have q3 : ¬ (16 : Int) < s.length := by omega
      have q3' : ¬ 16 < s.length := by omega
      by_cases h0 : i = 0
      · simp [q1, q1', q1'', q2, q2', q3, q3', ofL_size, h0, e19]
        have w1c : IntKind.i64.wrap 1 = 1 := by decide
        simp only [cg]
        refine ⟨fun h => by simp at h, fun h => by simp at h, out.length - (i + 1), by omega, i + 1, rfl, by omega, hkp.trans (hk5.mono hkp.1), by simp [e0], by simp [e5], by simp [e17], by simp [e18], ?_⟩
        rw [h0]; simp [w1c]
      · have h0' : (0 : Int) < i := by omega
        have h0'' : 0 < i := by omega
        simp [q1, q1', q1'', q2, q2', q3, q3', ofL_size, h0', h0'', e19, e0, e5]
        obtain ⟨m, hm⟩ : ∃ m, m = i - 1 := ⟨_, rfl⟩
        have w3 : IntKind.i64.wrap ((i : Int) - 1) = (m : Int) := by rw [wi (by omega) (by omega)]; omega
        obtain ⟨t, ht'⟩ : ∃ t, out[m]? = some t := ⟨_, List.getElem?_eq_getElem (by omega)⟩
        have hct := hcs m t ht'
        have hg6 : H6.get b = .cells cs 9 rw' := by rw [hk5.2 b (lt_cells hg)]; exact hg
        have htl := pcs_mem (hm1 m t ht').2
        obtain ⟨a7, c7, hc7, hsv7⟩ := hos5.cutS (m := m) (by omega)
        have hcut7 := hos5.cutE (m := m) (by omega)
        rw [w3, hiad _ _ _ (by omega : m < out.length)]
        simp only [kLd_p, hg6, hct, oV_some]
        rw [hcut7]
        refine (rBrought_t (hl4.kp hk5) (by omega)).mono ?_
        rintro v7 H7 ⟨hk7, hA7⟩
        obtain ⟨a8, c8, rfl, hsv8⟩ := hA7.sv rfl
        have hos7 := hos5.kp hk7
        have hck7 := kop_slc (hos7.cutE (m := m) (by omega))
        have hg7 : H7.get b = .cells cs 9 rw' := by rw [hk7.2 b (lt_cells hg6)]; exact hg6
        have hrw7 := rWorth_t (H := H7) (a := a8) (c := c8) (a2 := a7) (c2 := c7) (rs := brL l) (tk := out.take m) (s := t) hsv8 (hsv7.kp hk7) hbr.1 (fun r hr => by have := hbr.2 r hr; omega) (by rw [List.length_take]; omega) (hsz m) (by omega)
        have hmo := hm2 m s t (by rw [hm, show i - 1 + 1 = i by omega]; exact hs) ht'
        rw [show m + 1 = i by omega, ← hW] at hmo
        simp only [cg, hck7, hc7, kop_ld, kLd_p, hg7, hct, Option.map_some, oT_some]
        refine ⟨fun _ => str_veq _, fun _ => slice_veq _ _ _, ?_⟩
        refine hrw7.mono ?_
        rintro v8 H8 ⟨rfl, rfl⟩
        have q5 : ¬ ((worthS (WG (brL l) (out.take m)) t : Nat) : Int) < W := by omega
        have q5' : ¬ worthS (WG (brL l) (out.take m)) t < W := by omega
        simp [q5, q5', e19, w2]
        exact ⟨out.length - (i + 1), by omega, i + 1, rfl, by omega, (hkp.trans (hk5.mono hkp.1)).trans (hk7.mono (by have := hkp.1; have := hk5.1; omega)), by simp [e0], by simp [e5], by simp [e17], by simp [e18], by simp⟩
    · obtain rfl : i = out.length := by omega
      simp [s9_0, e0, e5, e18, e19]
      rw [hlenl H4 hl4]
      by_cases h1l : l.length ≤ 1
      · have h1l' : ¬ (1 : Int) < l.length := by omega
        have h1l'' : ¬ 1 < l.length := by omega
        simp [h1l', h1l'']
        rw [hlen H4 hos4]
        simp [hone h1l]
      · have h1l' : (1 : Int) < l.length := by omega
        have h1l'' : 1 < l.length := by omega
        simp [h1l', h1l'']
end Go.Proofs.Ytlboioplemlneaa.K
namespace Go.Proofs.Ytlboioplemlneaa.trainMost
open Go Go.Proofs Go.ChangeShapes Go.WideShapes Go.ChangeAt Go.RowKit
theorem own : ownKnob Try.prog.godebug = none := by kernel_rfl
theorem laid : laidOutB Try.prog = true := by kernel_rfl
set_option maxRecDepth 100000 in
theorem lifted (os : Os) (started : os.Started) (H : Type) (enc : TypeId × Value → H) :
    ReturnsInHanded {} Try.checked os 9 .any (Rows.trainMostSpec.pre6 enc Try.prog Try.f9 Rows.trainMostRow.domain false) (Rows.trainMostSpec.post enc Try.prog Try.f9 false true false false) := by
  refine returnsInHanded_of_change (C := Try.checked) own started (by kernel_rfl) Try.func9
    (ChangeSpec.witness6 (enc := enc) (C := Try.checked) false ⟨#[], #[.slice none 0 0, .int .i64 0], []⟩ 8 (by kernel_rfl) (by kernel_rfl) (by kernel_rfl) (by kernel_rfl)) ?_
  intro W base args ds gs before hval0 hW hcnd _
  have hval : ∀ (j : Nat) t v, Try.f9.params[j]? = some t → args[j]? = some v → Value.okWide Try.prog W .any base t v := hval0
  have hW' := hW
  obtain ⟨p, q, hA0, hV, rfl, hfz, hnd⟩ := hW
  have hA : DataW.TrodAll enc Try.prog W 0 (fun _ => true) true Try.f9.params.toList args.toList ds p := hA0
  rw [Try.params9] at hA hval
  have hA1 := hA
  obtain ⟨v0, vs0, d0, ds0, p0, q0, hargs, rfl, rfl, h0, r0⟩ := trodAll_cons hA
  obtain ⟨v1, vs1, d1, ds1, p1, q1, rfl, rfl, rfl, h1, r1⟩ := trodAll_cons r0
  obtain ⟨rfl, rfl, rfl⟩ := trodAll_nil r1
  obtain rfl : args = #[v0, v1] := by cases args; simp_all
  obtain ⟨rfl, rfl⟩ := trodVars_none hV
  have HR0 := K.HRel.nil (P := Try.prog) W
  have hn0 : ∀ b : Nat, (K.Heap.get [] b).own = false := fun b => rfl
  obtain ⟨a0, b0, ρ1, p1x, x0, HR1, hn1, w0⟩ := K.arg_slice (e := 9) (d := 6) (ks := [.str]) Try.underlying48 (by kernel_rfl) (by kernel_rfl) (by decide) (hval 0 48 v0 rfl rfl) h0 HR0 hn0
  obtain ⟨a1, rfl, _, _, w1⟩ := open_int Try.underlying3 (hval 1 3 v1 rfl rfl) h1
  clear hA0 hval0
  refine (K.calls_of K.S_ok (K.lawMost a0 b0 a1 w0 w1) HR1 (K.VL.cons x0 (K.VL.cons (K.VRel.int .i64 a1) K.VL.nil))).mono fun e W' ⟨he, hb⟩ => ?_
  subst he
  exact ⟨_, rfl, K.post_of_below (pa := _) (pv := []) hW' (fun _ _ _ => (trodAll_cons_mk (shut_bool Try.underlying4 _) trodAll_mk0)) (fun sp hsp => K.trodAll_stays laid hb hA1 (by
      intro t ht
      replace ht : t ∈ ([48, 3] : List TypeId) := ht
      simp only [List.mem_cons, List.not_mem_nil, or_false] at ht
      rcases ht with rfl | rfl <;> exact ⟨by kernel_rfl, of_decide_eq_true (by kernel_rfl)⟩) (fun x hx => hW'.lt x (by simpa using hx)) (fun x hx => hsp x (by simpa using hx))) (fun _ _ => rfl) rfl
    hb (ok_one (by kernel_rfl) rfl (okWide_bool_mk Try.underlying4 _))⟩
theorem over : Rows.trainMostRow.holds Try.pinned (OpenSpec.ofChange Rows.trainMostSpec) :=
  OpenClaim.holds_of_wide 9 Try.f9 rfl rfl rfl rfl rfl rfl rfl ⟨rfl, rfl, rfl, rfl, rfl⟩ rfl rfl rfl rfl rfl (by kernel_rfl) Try.func9 (by kernel_rfl)
    (of_decide_eq_true (by kernel_rfl)) (by unfold Func.isWrapper; first | (rw [if_pos (by decide +kernel)]; kernel_rfl) | (rw [if_neg (by decide +kernel)]; exact ⟨rfl, rfl⟩))
    (fun os started H enc _ => lifted os started H enc)
theorem proved : Rows.TrainMostSaid :=
  over
end Go.Proofs.Ytlboioplemlneaa.trainMost
