/- Literals in short: what the program decodes by lengths; one byte, again and again. -/
import Derived.Test.YtlboioplemlneaaGreatPD
import Derived.Test.YtlboioplemlneaaGreatPC
import Derived.Test.YtlboioplemlneaaGreatPE
import Derived.Test.YtlboioplemlneaaGreatPH
set_option maxRecDepth 100000
set_option maxHeartbeats 2000000
set_option linter.unusedVariables false
set_option linter.unusedSimpArgs false
namespace Go.Proofs.YtlboioplemlneaaGreat.K
open Go Go.Proofs
section
variable {H : Heap} {b : Nat} {s : Bytes} {bad : Bool}
theorem Int_neg (h : Rd H b s bad) {m : Int} (hm : m < 0) : Wf S 22 [.pointer (some ⟨b, 0, none⟩), .int .i64 m] H fun v H' => v = .int .i64 0 ∧ H' = H.put b (RdB [] true) := by
  have hlt := h.lt
  refine w22 rfl rfl _ _ ?_
  simp [s22]
  refine (Group_t h).mono ?_
  rintro v H1 ⟨rfl, rfl⟩
  have hrd : Rd (H.put b (RdB (grL (grpOut s bad)) (grpOut s bad).isNone)) b (grL (grpOut s bad)) (grpOut s bad).isNone := rd_put hlt
  try simp
  refine (Bad_t hrd).mono ?_
  rintro v H2 ⟨rfl, rfl⟩
  cases ho : grpOut s bad with
  | none =>
    rw [ho] at hrd
    simp
    refine (fail_t hrd).mono ?_
    rintro v H3 rfl
    rw [put_put]
    try simp
  | some p =>
    rw [ho] at hrd
    simp [hm]
    refine (fail_t hrd).mono ?_
    rintro v H3 rfl
    rw [put_put]
    try simp
theorem repL1 (x : UInt8) : ∀ n, Lib.repeatL [x] n = List.replicate n x
  | 0 => rfl
  | n + 1 => by simp only [Lib.repeatL, repL1 x n, List.replicate_succ]; rfl
theorem Rep_t (x : UInt8) (n : Nat) (hn : n ≤ 1000000000) : Wf S 25 [.string (ofL [x]), .int .i64 n] H fun v H' => v = .string (ofL (List.replicate n x)) ∧ H' = H := by
  refine Wf_prim rep_prim ⟨_, _, ?_, rfl, rfl⟩
  have hz : (ofL [x]).size = 1 := rfl
  have hd : (ofL [x]).data.toList = [x] := rfl
  simp only [repP, hz, hd, Int.toNat_natCast, repL1]
  rw [if_pos (by omega)]
  rfl
theorem Is.put {v : Value} {l : List Int} {l' : Bytes} {bad' : Bool} (h : Is H v l) (hr : Rd H b s bad) : Is (H.put b (RdB l' bad')) v l := by
  rcases h with h | ⟨b', o, c, cs, rw, h1, h2, h3, h4⟩
  · exact .inl h
  · refine .inr ⟨b', o, c, cs, rw, h1, h2, ?_, h4⟩
    have : b' ≠ b := by
      rintro rfl
      unfold Rd at hr
      rw [h3] at hr
      simp [RdB] at hr
    rw [get_put_ne this, h3]
/-- literals by lengths that come next, and what is left -/
noncomputable def litC (s : Bytes) (n : Nat) : Option (Bytes × Bytes) := if rok s then (txtOut (s.drop (atN s)) false 1048576).bind fun p => (decF (nibs s (hdN s)) p.1 n).map fun d => (d, p.2) else none
def LO (b : Nat) (v : Value) (H : Heap) (o : Option (Bytes × Bytes)) : Prop := match o with
  | some p => v = .tuple #[.string (ofL p.1), .bool true] ∧ Rd H b p.2 false
  | none => v = .tuple #[.string (ofL []), .bool false]
theorem txt_len {s : Bytes} {m : Nat} {p : Bytes × Bytes} (h : txtOut s false m = some p) : p.1.length + p.2.length ≤ s.length := by
  unfold txtOut intOut grpOut at h
  simp only [Bool.false_eq_true, if_false] at h
  cases hp : pG 0 s with
  | none => rw [hp] at h; simp at h
  | some q =>
    rw [hp] at h
    have := pG_len (v := q.1) (t := q.2) hp
    simp only [Option.bind_some] at h
    split at h
    · simp only [Option.bind_some] at h
      split at h
      · cases h
        simp; omega
      · cases h
    · simp at h
theorem decoded_t (h : Rd H b s false) (hs : s.length ≤ 100000) (n : Nat) (hn : n ≤ 1048576) : Wf S 26 [.pointer (some ⟨b, 0, none⟩), .int .i64 n] H fun v H' => LO b v H' (litC s n) := by
  refine w26 rfl rfl _ _ ?_
  simp [s26]
  refine (Read_t h hs).mono ?_
  rintro v H1 ⟨hn1, hold1, hr⟩
  by_cases hok : rok s
  · rw [if_pos hok] at hr
    obtain ⟨v', rfl, hi, hr1⟩ := hr
    simp
    refine (Text_t hr1 1048576 (by omega)).mono ?_
    rintro v H2 ⟨rfl, rfl⟩
    have hlt := hr1.lt
    have hi2 := hi.put (l' := txL (txtOut (s.drop (atN s)) false 1048576)) (bad' := (txtOut (s.drop (atN s)) false 1048576).isNone) hr1
    have hr2 : Rd (H1.put b (RdB (txL (txtOut (s.drop (atN s)) false 1048576)) (txtOut (s.drop (atN s)) false 1048576).isNone)) b (txL (txtOut (s.drop (atN s)) false 1048576)) (txtOut (s.drop (atN s)) false 1048576).isNone := rd_put hlt
    try simp
    refine (Bad_t hr2).mono ?_
    rintro v H3 ⟨rfl, rfl⟩
    cases ho : txtOut (s.drop (atN s)) false 1048576 with
    | none =>
      have hc : litC s n = none := by simp [litC, hok, ho]
      simp [hc, LO, tup, bs_ofL]
    | some p =>
      rw [ho] at hi2 hr2
      obtain ⟨a, c, rfl, hiv⟩ := hi2.iv
      have hpl := txt_len ho
      rw [List.length_drop] at hpl
      have hw : wholeB (nibs s (hdN s)) = true := hok.2.2.1
      have hbd := hdN_bd s
      simp [txS]
      refine (Decode_t hiv (by rw [nibs_len]; omega) (by omega) (n : Int)).mono ?_
      rintro v H4 ⟨hk, hv⟩
      rw [if_pos ⟨hw, by omega, by omega⟩, Int.toNat_natCast] at hv
      have hr4 : Rd H4 b p.2 false := (hk.2 b hr2.lt).trans hr2
      cases hd : decF (nibs s (hdN s)) p.1 n with
      | none =>
        rw [hd] at hv
        subst hv
        have hc : litC s n = none := by simp [litC, hok, ho, hd]
        have hb2 := fun K => s_b2s (S := S) (e := []) (H := H4) (K := K) (t := 5) (a := none) (n := 0) (c := 0) (l := []) rfl
        simp [hb2, hc, LO, tup, bs_ofL]
      | some d =>
        rw [hd] at hv
        obtain ⟨w, rfl, hA⟩ := hv
        have hc : litC s n = some (d, p.2) := by simp [litC, hok, ho, hd]
        obtain ⟨a', c', rfl, hrow⟩ := hA.row
        simp [s_b2s hrow, hc, LO, tup, hr4]
  · rw [if_neg hok] at hr
    subst hr
    have hc : litC s n = none := by simp [litC, hok]
    simp [hc, LO, tup, bs_ofL]
end
end Go.Proofs.YtlboioplemlneaaGreat.K
/- Literals in short: what the program decodes. -/
set_option maxRecDepth 100000
set_option maxHeartbeats 2000000
set_option linter.unusedVariables false
set_option linter.unusedSimpArgs false
namespace Go.Proofs.YtlboioplemlneaaGreat.K
open Go Go.Proofs
/-- a section's literals, and what is left -/
noncomputable def litK (k : UInt8) (n : Nat) (u : Bytes) : Option (Bytes × Bytes) :=
  if k.toNat = 0 then if n ≤ u.length then some (u.take n, u.drop n) else none
  else if k.toNat = 1 then match u with | [] => none | x :: w => some (List.replicate n x, w)
  else if k.toNat = 2 then litC u n else none
noncomputable def litD (s : Bytes) (most : Int) : Option (Bytes × Bytes) := match s with
  | [] => none
  | k :: t => if most < 0 then none else match intOut t false (min most 1048576).toNat with
    | none => none
    | some p => litK k p.1 p.2
theorem litK_one {k : UInt8} {n : Nat} {u : Bytes} (h : k.toNat = 1) : litK k n u = match u with | [] => none | x :: w => some (List.replicate n x, w) := by
  unfold litK; rw [if_neg (by omega), if_pos h]
theorem int_le {s : Bytes} {m : Nat} {p : Nat × Bytes} (h : intOut s false m = some p) : p.1 ≤ m ∧ p.2.length < s.length := by
  unfold intOut grpOut at h
  simp only [Bool.false_eq_true, if_false] at h
  cases hp : pG 0 s with
  | none => rw [hp] at h; simp at h
  | some q =>
    rw [hp] at h
    simp only [Option.bind_some] at h
    split at h
    · cases h
      exact ⟨by assumption, pG_len hp⟩
    · cases h
section
variable {H : Heap} {b : Nat} {s : Bytes}
theorem LDecode_t (h : Rd H b s false) (hs : s.length ≤ 100000) (most : Int) : Wf S 9 [.pointer (some ⟨b, 0, none⟩), .int .i64 most] H fun v H' => LO b v H' (litD s most) := by
  refine w9 rfl rfl _ _ ?_
  simp [s9]
  refine (Fixed1_t h).mono ?_
  rintro v H1 ⟨rfl, hr1, hn1, hold1⟩
  cases s with
  | nil =>
    have hc : litD [] most = none := rfl
    rw [hc]
    have hb1 : rawB [] false 1 = true := rfl
    rw [hb1] at hr1
    have hmn : ∀ K : Kv, run S (.mn (.c (.int .i64 most)) [.c (.int .i64 1048576)]) [] H1 K = K (.int .i64 (min most 1048576)) H1 := fun K => by
      simp
    simp
    rcases (by omega : min most 1048576 < 0 ∨ 0 ≤ min most 1048576) with hneg | hpos
    · refine (Int_neg hr1 hneg).mono ?_
      rintro v H2 ⟨rfl, rfl⟩
      have hr2 : Rd (H1.put b (RdB [] true)) b [] true := rd_put hr1.lt
      try simp
      refine (Bad_t hr2).mono ?_
      rintro v H3 ⟨rfl, rfl⟩
      simp [LO, tup, bs_ofL]
    · obtain ⟨m, hm⟩ : ∃ m : Nat, min most 1048576 = m := ⟨_, (Int.toNat_of_nonneg hpos).symm⟩
      rw [hm]
      refine (Int_t hr1 m (by omega)).mono ?_
      rintro v H2 ⟨rfl, rfl⟩
      have hio : intOut (rawL [] false 1) true m = none := by simp [intOut, grpOut]
      rw [hio]
      have hr2 : Rd (H1.put b (RdB [] true)) b [] true := rd_put hr1.lt
      simp [grL]
      refine (Bad_t hr2).mono ?_
      rintro v H3 ⟨rfl, rfl⟩
      simp [LO, tup, bs_ofL]
  | cons k t =>
    have hb1 : rawB (k :: t) false 1 = false := by simp [rawB]
    have hl1 : rawL (k :: t) false 1 = t := by simp [rawL]
    have ho1 : (rawOut (k :: t) false 1).headD 0 = k := by simp [rawOut]
    rw [hb1, hl1] at hr1
    rw [ho1]
    simp only [List.length_cons] at hs
    try simp
    rcases (by omega : most < 0 ∨ 0 ≤ most) with hneg | hpos
    · have hc : litD (k :: t) most = none := if_pos hneg
      rw [hc]
      have hneg : min most 1048576 < 0 := by omega
      refine (Int_neg hr1 hneg).mono ?_
      rintro v H2 ⟨rfl, rfl⟩
      have hr2 : Rd (H1.put b (RdB [] true)) b [] true := rd_put hr1.lt
      try simp
      refine (Bad_t hr2).mono ?_
      rintro v H3 ⟨rfl, rfl⟩
      simp [LO, tup, bs_ofL]
    · obtain ⟨m, hm⟩ : ∃ m : Nat, min most 1048576 = m := ⟨(min most 1048576).toNat, by omega⟩
      have hm' : (min most 1048576).toNat = m := by omega
      have hc0 : litD (k :: t) most = match intOut t false m with
        | none => none
        | some p => litK k p.1 p.2 := by
        simp only [litD]; rw [if_neg (by omega), hm']
      rw [hm]
      refine (Int_t hr1 m (by omega)).mono ?_
      rintro v H2 ⟨rfl, rfl⟩
      have hr2 : Rd (H1.put b (RdB (grL (intOut t false m)) (intOut t false m).isNone)) b (grL (intOut t false m)) (intOut t false m).isNone := rd_put hr1.lt
      try simp
      refine (Bad_t hr2).mono ?_
      rintro v H3 ⟨rfl, rfl⟩
      cases hio : intOut t false m with
      | none =>
        rw [hio] at hc0
        simp [hc0, LO, tup, bs_ofL]
      | some p =>
        obtain ⟨n, u⟩ := p
        obtain ⟨hnm, hul⟩ := int_le hio
        rw [hio] at hr2 hc0
        simp only [grL, Option.isNone_some] at hr2 hc0
        simp only at hnm hul
        have hkl := k.toNat_lt
        simp only [grL, gvN, Option.isNone_some]
        generalize H1.put b (RdB u false) = H2 at *
        by_cases k0 : k.toNat = 0
        · have hc : litK k n u = if n ≤ u.length then some (u.take n, u.drop n) else none := if_pos k0
          simp [k0]
          refine (Raw_t hr2 n).mono ?_
          rintro v H4 ⟨rfl, rfl⟩
          have hr4 : Rd (H2.put b (RdB (rawL u false n) (rawB u false n))) b (rawL u false n) (rawB u false n) := rd_put hr2.lt
          rw [Int.toNat_natCast]
          try simp
          refine (Bad_t hr4).mono ?_
          rintro v H5 ⟨rfl, rfl⟩
          by_cases hle : n ≤ u.length
          · have h3 : ¬ u.length < n := by omega
            rw [hc0, hc, if_pos hle]
            have e2 : rawB u false n = false := by simp [rawB, h3]
            have e3 : rawL u false n = u.drop n := by simp [rawL, h3]
            have e4 : rawOut u false n = u.take n := by simp [rawOut, h3]
            rw [e2, e3] at hr4
            simp [e2, e3, e4, LO, tup]
            exact hr4
          · have h3 : u.length < n := by omega
            rw [hc0, hc, if_neg hle]
            simp [rawB, rawL, rawOut, h3, LO, tup]
        by_cases k1 : k.toNat = 1
        · have hc := litK_one (n := n) (u := u) k1
          simp [k1]
          refine (Raw_t hr2 1).mono ?_
          rintro v H4 ⟨rfl, rfl⟩
          have hr4 : Rd (H2.put b (RdB (rawL u false 1) (rawB u false 1))) b (rawL u false 1) (rawB u false 1) := rd_put hr2.lt
          have e1 : (1 : Int).toNat = 1 := rfl
          rw [e1]
          try simp
          refine (Bad_t hr4).mono ?_
          rintro v H5 ⟨rfl, rfl⟩
          cases u with
          | nil =>
            rw [hc0, hc]
            simp [rawB, rawL, rawOut, LO, tup, bs_ofL]
          | cons x w =>
            rw [hc0, hc]
            have e2 : rawB (x :: w) false 1 = false := by simp [rawB]
            have e3 : rawL (x :: w) false 1 = w := by simp [rawL]
            have e4 : rawOut (x :: w) false 1 = [x] := by simp [rawOut]
            rw [e2, e3] at hr4
            simp [e2, e3, e4]
            refine (Rep_t x n (by omega)).mono ?_
            rintro v H6 ⟨rfl, rfl⟩
            simp [LO, tup]
            exact hr4
        by_cases k2 : k.toNat = 2
        · have hc : litK k n u = litC u n := by
            unfold litK; rw [if_neg k0, if_neg k1, if_pos k2]
          simp [k2]
          refine (decoded_t hr2 (by omega) n (by omega)).mono ?_
          rintro v H4 hv
          rw [hc0, hc]
          cases hlc : litC u n with
          | none =>
            rw [hlc] at hv
            obtain rfl := hv
            simp [LO, tup]
          | some p =>
            rw [hlc] at hv
            obtain ⟨rfl, hr⟩ := hv
            simp [LO, tup]
            exact hr
        · have hc : litK k n u = none := by
            unfold litK; rw [if_neg k0, if_neg k1, if_neg k2]
          have j0 : ¬ (k.toNat : Int) = 0 := by omega
          have j1 : ¬ (k.toNat : Int) = 1 := by omega
          have j2 : ¬ (k.toNat : Int) = 2 := by omega
          rw [hc0, hc]
          simp [k0, k1, k2, j0, j1, j2, LO, tup, bs_ofL]
end
end Go.Proofs.YtlboioplemlneaaGreat.K
/- Literals in short: what is left of a section stands behind it; how many literals there are. Plainly. -/
set_option maxRecDepth 100000
set_option maxHeartbeats 2000000
set_option linter.unusedVariables false
set_option linter.unusedSimpArgs false
namespace Go.Proofs.YtlboioplemlneaaGreat.K
open Go Go.Proofs
theorem int_suf {s : Bytes} {m : Nat} {p : Nat × Bytes} (h : intOut s false m = some p) : p.2 <:+ s := by
  unfold intOut grpOut at h
  simp only [Bool.false_eq_true, if_false] at h
  cases hp : pG 0 s with
  | none => rw [hp] at h; simp at h
  | some q =>
    rw [hp] at h
    simp only [Option.bind_some] at h
    split at h
    · cases h
      exact ⟨grp p.1, ((pG_grp s 0 p.1 p.2 hp).1).symm⟩
    · cases h
theorem txt_suf {s : Bytes} {m : Nat} {p : Bytes × Bytes} (h : txtOut s false m = some p) : p.2 <:+ s := by
  unfold txtOut at h
  cases hp : intOut s false m with
  | none => rw [hp] at h; simp at h
  | some q =>
    rw [hp] at h
    simp only [Option.bind_some] at h
    split at h
    · cases h
      exact (List.drop_suffix _ _).trans (int_suf hp)
    · cases h
theorem litC_ok {s : Bytes} {n : Nat} {p : Bytes × Bytes} (h : litC s n = some p) : p.2 <:+ s ∧ p.1.length = n := by
  unfold litC at h
  split at h
  · rename_i hok
    cases ht : txtOut (s.drop (atN s)) false 1048576 with
    | none => rw [ht] at h; simp at h
    | some q =>
      rw [ht] at h
      simp only [Option.bind_some] at h
      cases hd : decF (nibs s (hdN s)) q.1 n with
      | none => rw [hd] at h; simp at h
      | some d =>
        rw [hd] at h
        simp at h
        subst h
        exact ⟨(txt_suf ht).trans (List.drop_suffix _ _), (decF_ok hok.2.2.1 hd).2⟩
  · cases h
theorem litK_ok {k : UInt8} {n : Nat} {u : Bytes} {p : Bytes × Bytes} (h : litK k n u = some p) : p.2 <:+ u ∧ p.1.length = n := by
  unfold litK at h
  split at h
  · split at h
    · cases h
      exact ⟨List.drop_suffix _ _, by simp; omega⟩
    · cases h
  · split at h
    · cases u with
      | nil => cases h
      | cons x w => cases h; exact ⟨⟨[x], rfl⟩, by simp⟩
    · split at h
      · exact litC_ok h
      · cases h
theorem litD_ok {s : Bytes} {most : Int} {p : Bytes × Bytes} (h : litD s most = some p) : s.drop (s.length - p.2.length) = p.2 ∧ p.2.length < s.length ∧ (p.1.length : Int) ≤ most := by
  cases s with
  | nil => cases h
  | cons k t =>
    simp only [litD] at h
    split at h
    · cases h
    · rename_i hneg
      cases hi : intOut t false (min most 1048576).toNat with
      | none => rw [hi] at h; cases h
      | some q =>
        rw [hi] at h
        obtain ⟨h1, h2⟩ := litK_ok h
        obtain ⟨h3, h4⟩ := int_le hi
        have hs : p.2 <:+ k :: t := (h1.trans (int_suf hi)).trans ⟨[k], rfl⟩
        obtain ⟨pre, hpre⟩ := hs
        have hl : p.2.length ≤ q.2.length := h1.length_le
        refine ⟨?_, by simp; omega, by omega⟩
        rw [← hpre, List.length_append, Nat.add_sub_cancel, List.drop_left]
end Go.Proofs.YtlboioplemlneaaGreat.K
/- Literals in short: what the document reads. -/
set_option maxRecDepth 100000
set_option maxHeartbeats 2000000
set_option linter.unusedVariables false
set_option linter.unusedSimpArgs false
namespace Go.Proofs.YtlboioplemlneaaGreat.K
open Go Go.Proofs
/-- what the document answers: the literals, and how many bytes the section has -/
def LR (s : Bytes) (v : Value) (o : Option (Bytes × Bytes)) : Prop := match o with
  | some p => v = .tuple #[.string (ofL p.1), .int .i64 ((s.length - p.2.length : Nat) : Int)]
  | none => v = .tuple #[.string (ofL []), .int .i64 0]
/-- the bytes that are there behind i rounds -/
def fillB (x : UInt8) (n i : Nat) : Bytes := List.replicate i x ++ List.replicate (n - i) 0
theorem fillB_succ {x : UInt8} {n i : Nat} (h : i < n) : (bvs (fillB x n i)).set i (bv x) = bvs (fillB x n (i + 1)) := by
  have e : n - i = (n - (i + 1)) + 1 := by omega
  unfold fillB bvs
  rw [e, List.replicate_succ, List.map_append, List.set_append_right _ _ (by simp)]
  simp [List.replicate_succ', bv]
theorem fillB_len {x : UInt8} {n i : Nat} (h : i ≤ n) : (fillB x n i).length = n := by simp [fillB]; omega
structure FiI (H0 : Heap) (s : Bytes) (x : UInt8) (n at_ : Nat) (d : Nat) (e : Fe) (H : Heap) (i : Nat) : Prop where
  h1 : i ≤ n
  h2 : d = n - i
  kp : Kp H0.next H0 H
  hN : H.get H0.next = .cells (bvs (fillB x n i)) 5 true
  e0 : e 0 = .string (ofL s)
  e8 : e 8 = .int .i64 n
  e9 : e 9 = .int .i64 at_
  e10 : e 10 = .slice (some ⟨H0.next, 0, none⟩) n n
  e11 : e 11 = .int .i64 i
theorem first_some {t : Bytes} {v : Nat} {u : Bytes} (h : pG 0 t = some (v, u)) : gFirst t = .tuple #[.int .u64 (v : Int), .int .i64 ((t.length - u.length : Nat) : Int)] := by unfold gFirst; rw [h]
theorem first_none {t : Bytes} (h : pG 0 t = none) : gFirst t = .tuple #[.int .u64 0, .int .i64 0] := by unfold gFirst; rw [h]
theorem pG_drop {t : Bytes} {v : Nat} {u : Bytes} (h : pG 0 t = some (v, u)) : t.drop (t.length - u.length) = u ∧ u.length < t.length := by
  have h1 := (pG_grp t 0 v u h).1
  have h2 := pG_len h
  refine ⟨?_, h2⟩
  rw [h1]
  rw [List.length_append, Nat.add_sub_cancel]
  exact List.drop_left
section
variable {H : Heap} {s : Bytes}
theorem rLDecode_t (hs : s.length ≤ 100000) (most : Int) (hm : most ≤ 9223372036854775807) : Wf S 7 [.string (ofL s), .int .i64 most] H fun v H' => Kp H.next H H' ∧ LR s v (litD s most) := by
  refine w7 rfl rfl _ _ ?_
  simp only [s7]
  cases hsd : s with
  | nil =>
    have hc : litD [] most = none := rfl
    simp [bs_ofL, s_eql, hc, LR, tup]
    exact Kp.refl _ _
  | cons k t =>
  rw [← hsd]
  have hne : ¬ s = [] := by rw [hsd]; simp
  have hneb : ((ofL s).toList == (ofL []).toList) = false := by rw [toList_ofL, toList_ofL, hsd]; rfl
  have hdr : s.drop 1 = t := by rw [hsd]; rfl
  have hsl : s.length = t.length + 1 := by rw [hsd]; rfl
  have hle1 : (1 : Int) ≤ s.length := by omega
  have hle1' : 1 ≤ s.length := by omega
  have hget0 : s[0]? = some k := by rw [hsd]; rfl
  have hid : ∀ {K : Kv} {H : Heap}, run S (.idS (.c (.string (ofL s))) (.c (.int .i64 0))) [] H K = K (bv k) H := fun {K} {H} => s_at (i := 0) hget0
  have hkl := k.toNat_lt
  simp [bs_ofL, hneb, s_from, hle1, hle1', hdr]
  refine (rFirst_t t (by omega)).mono ?_
  rintro v H1 ⟨hk1, rfl⟩
  have hc00 : litD s most = if most < 0 then none else match intOut t false (min most 1048576).toNat with
    | none => none
    | some p => litK k p.1 p.2 := by rw [hsd]; rfl
  cases hp : pG 0 t with
  | none =>
    have hio : ∀ m, intOut t false m = none := fun m => by simp [intOut, grpOut, hp]
    have hc : litD s most = none := by rw [hc00, hio]; split <;> rfl
    rw [first_none hp]
    simp [hc, LR, tup]
    exact hk1
  | some q =>
  obtain ⟨n, u⟩ := q
  obtain ⟨hdu, hul⟩ := pG_drop hp
  have hn64 : n < 2 ^ 64 := by simpa using pG_lt hp (by omega)
  obtain ⟨kk, hkk⟩ : ∃ kk, kk = t.length - u.length := ⟨_, rfl⟩
  rw [first_some hp, ← hkk]
  rw [← hkk] at hdu
  have hk0 : ¬ kk = 0 := by omega
  by_cases hneg : most < 0
  · have hc : litD s most = none := by rw [hc00, if_pos hneg]
    simp [hk0, hneg, hc, LR, tup]
    exact hk1
  have hwm : IntKind.u64.wrap most = most := wu64 (by omega) (by omega)
  have hio : intOut t false (min most 1048576).toNat = if n ≤ (min most 1048576).toNat then some (n, u) else none := by
    simp [intOut, grpOut, hp]
  by_cases h2 : most < n
  · have hc : litD s most = none := by rw [hc00, if_neg hneg, hio, if_neg (by omega)]
    simp [hk0, hneg, hwm, h2, hc, LR, tup]
    exact hk1
  by_cases h3 : 1048576 < n
  · have hc : litD s most = none := by rw [hc00, if_neg hneg, hio, if_neg (by omega)]
    have h3' : (1048576 : Int) < n := by omega
    simp [hk0, hneg, hwm, h2, h3, h3', hc, LR, tup]
    exact hk1
  have hc0 : litD s most = litK k n u := by rw [hc00, if_neg hneg, hio, if_pos (by omega)]
  clear hc00 hio
  have h3' : ¬ (1048576 : Int) < n := by omega
  have hwn : IntKind.i64.wrap (n : Int) = n := wi (by omega) (by omega)
  obtain ⟨a, ha⟩ : ∃ a, a = 1 + kk := ⟨_, rfl⟩
  have hwa : IntKind.i64.wrap (1 + (kk : Int)) = (a : Int) := by rw [wi (by omega) (by omega)]; omega
  have hda : s.drop a = u := by rw [hsd, ha, Nat.add_comm]; simpa using hdu
  have hal : a + u.length = s.length := by omega
  have hws : IntKind.i64.wrap ((s.length : Int) - a) = (u.length : Int) := by rw [wi (by omega) (by omega)]; omega
  have hwan : IntKind.i64.wrap ((a : Int) + n) = ((a + n : Nat) : Int) := by rw [wi (by omega) (by omega)]; omega
  simp [hk0, hneg, hwm, h2, h3, h3', hwn, hwa, hid, bv_int, ofL_size]
  by_cases k0 : k.toNat = 0
  · have hc : litK k n u = if n ≤ u.length then some (u.take n, u.drop n) else none := if_pos k0
    by_cases hle : n ≤ u.length
    · have h4 : ¬ u.length < n := by omega
      have h4' : ¬ (u.length : Int) < n := by omega
      have q1 : (a : Int) ≤ ((a + n : Nat) : Int) ∧ ((a + n : Nat) : Int) ≤ s.length := by omega
      rw [hc0, hc, if_pos hle]
      have et : ((s.take (a + n)).drop a) = u.take n := by rw [List.drop_take, hda]; congr 1; omega
      have el : s.length - (u.drop n).length = a + n := by rw [List.length_drop]; omega
      have hsl2 : ∀ {K : Kv} {H : Heap}, run S (.slS (.c (.string (ofL s))) (some (.c (.int .i64 (a : Int)))) (some (.c (.int .i64 ((a : Int) + (n : Int)))))) [] H K = K (.string (ofL (u.take n))) H := fun {K} {H} => by
        rw [← Int.natCast_add, s_slice, if_pos ⟨by omega, q1.1, q1.2⟩, Int.toNat_natCast, Int.toNat_natCast, et]
      simp only [k0, hws, h4, h4', hwan, hsl2, LR, el, tup]
      simp [hws, h4, h4', hwan, hsl2, LR, el, tup]
      exact hk1
    · have h4 : u.length < n := by omega
      have h4' : (u.length : Int) < n := by omega
      rw [hc0, hc, if_neg hle]
      simp [k0, hws, h4, h4', LR, tup]
      exact hk1
  by_cases k1 : k.toNat = 1
  · have hc := litK_one (n := n) (u := u) k1
    have j0 : ¬ (k.toNat : Int) = 0 := by omega
    cases hu : u with
    | nil =>
      have h4 : (s.length : Int) ≤ a := by rw [hu] at hal; simp at hal; omega
      have h4' : s.length ≤ a := by omega
      rw [hc0, hc, hu]
      simp [k1, h4, h4', LR, tup]
      exact hk1
    | cons x w =>
      have hget : s[a]? = some x := by
        have : (s.drop a)[0]? = some x := by rw [hda, hu]; rfl
        simpa using this
      have h4 : ¬ (s.length : Int) ≤ a := by rw [hu] at hal; simp at hal; omega
      have h4' : ¬ s.length ≤ a := by omega
      rw [hc0, hc, hu]
      have hmks : kMks H1 5 [.int .u8 0] 1 (.int .i64 (n : Int)) (.int .i64 (n : Int)) = some (.slice (some ⟨H1.next, 0, none⟩) n n, H1.push (.cells (zeros [.int .u8 0] n) 5 true)) := by
        simp only [kMks]
        rw [if_pos (by omega)]; rfl
      have hz : zeros [.int .u8 0] n = bvs (fillB x n 0) := by
        unfold zeros fillB bvs
        induction n with
        | zero => rfl
        | succ n ih => simp [List.replicate_succ, bv]
      simp [k1, h4, h4', hmks]
      refine l7_0 S (fun d e H' => ∃ i, FiI H1 s x n a d e H' i) n ⟨0, by omega, by omega, Kp.push (Nat.le_refl _), by rw [get_last, hz], by simp, by simp, by simp, by simp, by simp⟩ ?_
      rintro d e H2 ⟨i, hi, rfl, hk2, hN, e0, e8, e9, e10, e11⟩
      by_cases h5 : i < n
      · have hw : IntKind.i64.wrap ((i : Int) + 1) = (i : Int) + 1 := wi (by omega) (by omega)
        have hat : ∀ {K : Kv} {H : Heap}, run S (.idS (.c (.string (ofL s))) (.c (.int .i64 (a : Int)))) [] H K = K (bv x) H := fun {K} {H} => s_at hget
        have hst : kSt H2 (.pointer (some ⟨H1.next, i, none⟩)) (bv x) = some (H2.put H1.next (.cells (bvs (fillB x n (i + 1))) 5 true)) := by
          have hil : i < (bvs (fillB x n i)).length := by rw [bvs_len, fillB_len hi]; exact h5
          simp only [kSt, hN]
          rw [if_pos (by simp [hil, oneC, bv]), fillB_succ h5]
        have hlt := lt_cells hN
        simp [s7_0, e0, e8, e9, e10, e11, h5, hat, addOff, hst, hw]
        refine ⟨n - (i + 1), by omega, i + 1, by omega, rfl, ?_, get_put_eq hlt, by simp [e0], by simp [e8], by simp [e9], by simp [e10], by simp⟩
        exact ⟨by rw [next_put]; exact hk2.1, fun k hk => (get_put_ne (by omega)).trans (hk2.2 k hk)⟩
      · have h6 : i = n := by omega
        subst h6
        have hfb : fillB x i i = List.replicate i x := by simp [fillB]
        rw [hfb] at hN
        have hrow : kRow H2 5 1 i (some ⟨H1.next, 0, none⟩) = some (bvs (List.replicate i x)) := by
          simp [kRow, hN, rd]
          rw [List.take_of_length_le (by rw [bvs_len]; simp)]
          simp [bvs_len]
        have hw1 : IntKind.i64.wrap ((a : Int) + 1) = ((a + 1 : Nat) : Int) := by rw [wi (by omega) (by omega)]; omega
        have el : s.length - w.length = a + 1 := by rw [hu] at hal; simp at hal; omega
        simp [s7_0, e0, e8, e9, e10, e11, s_b2s hrow, hw1, LR, el, tup]
        exact hk1.trans (hk2.mono hk1.1)
  by_cases k2 : k.toNat = 2
  · have hc : litK k n u = litC u n := by
      unfold litK; rw [if_neg k0, if_neg k1, if_pos k2]
    have q1 : (a : Int) ≤ s.length := by omega
    have q1' : a ≤ s.length := by omega
    rw [hc0, hc]
    simp [k2, s_from, q1, q1', hda]
    refine (rRead_t u (by omega)).mono ?_
    rintro v H2 ⟨hk2, hr⟩
    have hk12 := hk1.trans (hk2.mono hk1.1)
    by_cases hok : rok u
    · unfold RR at hr
      rw [if_pos hok] at hr
      obtain ⟨v', rfl, hi⟩ := hr
      have hbd := hdN_bd u
      have hat1 : atN u = 1 + (hdN u + 1) / 2 := rfl
      have hau := hok.2.1
      have z0 : ¬ atN u = 0 := by omega
      have hwat : IntKind.i64.wrap ((a : Int) + (atN u : Int)) = ((a + atN u : Nat) : Int) := by rw [wi (by omega) (by omega)]; omega
      obtain ⟨a2, ha2⟩ : ∃ a2, a2 = a + atN u := ⟨_, rfl⟩
      rw [← ha2] at hwat
      have q2 : (a2 : Int) ≤ s.length := by omega
      have q2' : a2 ≤ s.length := by omega
      have hd2 : s.drop a2 = u.drop (atN u) := by rw [ha2, ← hda, List.drop_drop]
      obtain ⟨u2, hu2⟩ : ∃ u2, u2 = u.drop (atN u) := ⟨_, rfl⟩
      rw [← hu2] at hd2
      have hl2 : u2.length = u.length - atN u := by rw [hu2, List.length_drop]
      simp [z0, hwat, s_from, q2, q2', hd2]
      refine (rFirst_t u2 (by omega)).mono ?_
      rintro v H3 ⟨hk3, rfl⟩
      have hk13 := hk12.trans (hk3.mono hk12.1)
      cases hp2 : pG 0 u2 with
      | none =>
        have hto : txtOut u2 false 1048576 = none := by simp [txtOut, intOut, grpOut, hp2]
        have hlc : litC u n = none := by simp [litC, hok, ← hu2, hto]
        rw [first_none hp2, hlc]
        simp [LR, tup]
        exact hk13
      | some q =>
      obtain ⟨m, u3⟩ := q
      obtain ⟨hdu3, hul3⟩ := pG_drop hp2
      have hm64 : m < 2 ^ 64 := by simpa using pG_lt hp2 (by omega)
      obtain ⟨k3, hk3'⟩ : ∃ k3, k3 = u2.length - u3.length := ⟨_, rfl⟩
      rw [first_some hp2, ← hk3']
      rw [← hk3'] at hdu3
      have hk30 : ¬ k3 = 0 := by omega
      have hw5 : IntKind.i64.wrap ((s.length : Int) - (a2 : Int)) = (u2.length : Int) := by rw [wi (by omega) (by omega)]; omega
      have hw6 : IntKind.i64.wrap ((u2.length : Int) - (k3 : Int)) = (u3.length : Int) := by rw [wi (by omega) (by omega)]; omega
      have hw7 : IntKind.u64.wrap (u3.length : Int) = (u3.length : Int) := wu64 (by omega) (by omega)
      have hto : txtOut u2 false 1048576 = if m ≤ u3.length then some (u3.take m, u3.drop m) else none := by
        simp only [txtOut, intOut, grpOut, Bool.false_eq_true, if_false, hp2, Option.bind_some]
        by_cases hm1 : m ≤ 1048576
        · rw [if_pos hm1]; rfl
        · rw [if_neg hm1, if_neg (by omega)]; rfl
      by_cases hm3 : u3.length < m
      · have hm3' : (u3.length : Int) < m := by omega
        rw [if_neg (by omega)] at hto
        have hlc : litC u n = none := by simp [litC, hok, ← hu2, hto]
        rw [hlc]
        simp [hk30, hw5, hw6, hw7, hm3, hm3', ofL_size, LR, tup]
        exact hk13
      · have hm3' : ¬ (u3.length : Int) < m := by omega
        rw [if_pos (by omega)] at hto
        obtain ⟨a3, ha3⟩ : ∃ a3, a3 = a2 + k3 := ⟨_, rfl⟩
        have hw8 : IntKind.i64.wrap ((a2 : Int) + (k3 : Int)) = (a3 : Int) := by rw [wi (by omega) (by omega)]; omega
        have hw9 : IntKind.i64.wrap (m : Int) = (m : Int) := wi (by omega) (by omega)
        have hw10 : IntKind.i64.wrap ((a3 : Int) + (m : Int)) = ((a3 + m : Nat) : Int) := by rw [wi (by omega) (by omega)]; omega
        have hd3 : s.drop a3 = u3 := by rw [ha3, ← List.drop_drop, hd2, hdu3]
        have et : ((s.take (a3 + m)).drop a3) = u3.take m := by rw [List.drop_take, hd3]; congr 1; omega
        have hsl2 : ∀ {K : Kv} {H : Heap}, run S (.slS (.c (.string (ofL s))) (some (.c (.int .i64 (a3 : Int)))) (some (.c (.int .i64 ((a3 : Int) + (m : Int)))))) [] H K = K (.string (ofL (u3.take m))) H := fun {K} {H} => by
          rw [← Int.natCast_add, s_slice, if_pos ⟨by omega, by omega, by omega⟩, Int.toNat_natCast, Int.toNat_natCast, et]
        obtain ⟨a', c', rfl, hiv⟩ := (hi.kp hk3).iv
        have hw : wholeB (nibs u (hdN u)) = true := hok.2.2.1
        simp [hk30, hw5, hw6, hw7, hm3, hm3', ofL_size, hw8, hw9, hw10]
        rw [hsl2]
        try simp
        refine (rDecode_t hiv hw (by simp; omega) n (by omega)).mono ?_
        rintro v H4 ⟨hk4, hv⟩
        have hk14 := hk13.trans (hk4.mono hk13.1)
        cases hd : decF (nibs u (hdN u)) (u3.take m) n with
        | none =>
          rw [hd] at hv
          subst hv
          have hlc : litC u n = none := by simp [litC, hok, ← hu2, hto, hd]
          rw [hlc]
          simp [LR, tup]
          exact hk14
        | some dd =>
          rw [hd] at hv
          obtain ⟨w, rfl, hA⟩ := hv
          have hlc : litC u n = some (dd, u3.drop m) := by simp [litC, hok, ← hu2, hto, hd]
          rw [hlc]
          obtain ⟨a'', c'', rfl, hrow⟩ := hA.row
          simp [s_b2s hrow, hw9, hw10, LR, tup]
          exact ⟨hk14, by omega⟩
    · unfold RR at hr
      rw [if_neg hok] at hr
      subst hr
      have hlc : litC u n = none := by simp [litC, hok]
      rw [hlc]
      simp [LR, tup]
      exact hk12
  · have hc : litK k n u = none := by
      unfold litK; rw [if_neg k0, if_neg k1, if_neg k2]
    have j0 : ¬ (k.toNat : Int) = 0 := by omega
    have j1 : ¬ (k.toNat : Int) = 1 := by omega
    have j2 : ¬ (k.toNat : Int) = 2 := by omega
    rw [hc0, hc]
    simp [k0, k1, k2, j0, j1, j2, LR, tup]
    exact hk1
end
end Go.Proofs.YtlboioplemlneaaGreat.K
/- Sections of literals, plainly: what is behind stays; a section that is cut is none; raw, run, and coded ones. -/
set_option maxRecDepth 100000
set_option maxHeartbeats 2000000
set_option linter.unusedVariables false
set_option linter.unusedSimpArgs false
namespace Go.Proofs.YtlboioplemlneaaGreat.K
open Go Go.Proofs
theorem int_app {s : Bytes} {m : Nat} {p : Nat × Bytes} (h : intOut s false m = some p) (q : Bytes) : intOut (s ++ q) false m = some (p.1, p.2 ++ q) := by
  unfold intOut grpOut at *
  simp only [Bool.false_eq_true, if_false] at *
  cases hp : pG 0 s with
  | none => rw [hp] at h; simp at h
  | some r =>
    obtain ⟨v, t⟩ := r
    rw [hp] at h
    obtain ⟨rfl, h0⟩ := pG_grp s 0 v t hp
    have := grp_pG v 0 (t ++ q) (by omega) (by simpa using pG_lt hp (by omega)) (by omega)
    rw [List.append_assoc, this]
    simp only [Option.bind_some] at *
    split at h
    · rename_i hle
      cases h
      rw [if_pos hle]
    · cases h
theorem txt_app {s : Bytes} {m : Nat} {p : Bytes × Bytes} (h : txtOut s false m = some p) (q : Bytes) : txtOut (s ++ q) false m = some (p.1, p.2 ++ q) := by
  unfold txtOut at *
  cases hp : intOut s false m with
  | none => rw [hp] at h; simp at h
  | some r =>
    rw [hp] at h
    rw [int_app hp q]
    simp only [Option.bind_some] at *
    split at h
    · rename_i hle
      cases h
      rw [if_pos (by rw [List.length_append]; omega), List.take_append_of_le_length hle, List.drop_append_of_le_length hle]
    · cases h
theorem int_mono {s : Bytes} {m m' : Nat} {p : Nat × Bytes} (h : intOut s false m = some p) (hm : m ≤ m') : intOut s false m' = some p := by
  unfold intOut at *
  cases hp : grpOut s false with
  | none => rw [hp] at h; simp at h
  | some r =>
    rw [hp] at h
    simp only [Option.bind_some] at *
    split at h
    · rw [if_pos (by omega)]; exact h
    · cases h
theorem rok_app {u : Bytes} (h : rok u) (q : Bytes) : rok (u ++ q) ∧ nibs (u ++ q) (hdN (u ++ q)) = nibs u (hdN u) ∧ (u ++ q).drop (atN (u ++ q)) = u.drop (atN u) ++ q := by
  obtain ⟨h1, h2, hw, ht⟩ := h
  obtain ⟨l, hl⟩ : ∃ l, l = nibs u (hdN u) := ⟨_, rfl⟩
  rw [← hl] at hw ht
  have hu : u = tableOf l ++ u.drop (atN u) := by rw [ht, List.take_append_drop]
  obtain ⟨r, hr⟩ : ∃ r, r = u.drop (atN u) := ⟨_, rfl⟩
  rw [← hr] at hu ⊢
  have b1 := back hw r
  rw [← hu] at b1
  have b2 := back hw (r ++ q)
  rw [← List.append_assoc, ← hu] at b2
  exact ⟨b2.1, b2.2.1.trans b1.2.1.symm, b2.2.2⟩
theorem litC_app {s : Bytes} {n : Nat} {p : Bytes × Bytes} (h : litC s n = some p) (q : Bytes) : litC (s ++ q) n = some (p.1, p.2 ++ q) := by
  unfold litC at *
  split at h
  · rename_i hok
    obtain ⟨h1, h2, h3⟩ := rok_app hok q
    rw [if_pos h1, h2, h3]
    cases ht : txtOut (s.drop (atN s)) false 1048576 with
    | none => rw [ht] at h; simp at h
    | some r =>
      rw [ht] at h
      rw [txt_app ht q]
      simp only [Option.bind_some] at *
      cases hd : decF (nibs s (hdN s)) r.1 n with
      | none => rw [hd] at h; simp at h
      | some d =>
        rw [hd] at h
        simp at h
        subst h
        rfl
  · cases h
theorem litK_app {k : UInt8} {n : Nat} {u : Bytes} {p : Bytes × Bytes} (h : litK k n u = some p) (q : Bytes) : litK k n (u ++ q) = some (p.1, p.2 ++ q) := by
  unfold litK at *
  split at h
  · rename_i h0
    rw [if_pos h0]
    split at h
    · rename_i hle
      cases h
      rw [if_pos (by rw [List.length_append]; omega), List.take_append_of_le_length hle, List.drop_append_of_le_length hle]
    · cases h
  · rename_i h0
    rw [if_neg h0]
    split at h
    · rename_i h1
      rw [if_pos h1]
      cases u with
      | nil => cases h
      | cons x w => cases h; rfl
    · rename_i h1
      rw [if_neg h1]
      split at h
      · rename_i h2
        rw [if_pos h2]; exact litC_app h q
      · cases h
theorem litD_app {s : Bytes} {m : Int} {p : Bytes × Bytes} (h : litD s m = some p) (q : Bytes) : litD (s ++ q) m = some (p.1, p.2 ++ q) := by
  cases s with
  | nil => cases h
  | cons k t =>
    simp only [litD, List.cons_append] at *
    split at h
    · cases h
    · rename_i hneg
      rw [if_neg hneg]
      cases hi : intOut t false (min m 1048576).toNat with
      | none => rw [hi] at h; cases h
      | some r =>
        rw [hi] at h
        rw [int_app hi q]
        exact litK_app h q
theorem litD_mono {s : Bytes} {m m' : Int} {p : Bytes × Bytes} (h : litD s m = some p) (hm : m ≤ m') : litD s m' = some p := by
  cases s with
  | nil => cases h
  | cons k t =>
    simp only [litD] at *
    split at h
    · cases h
    · rw [if_neg (by omega)]
      cases hi : intOut t false (min m 1048576).toNat with
      | none => rw [hi] at h; cases h
      | some r =>
        rw [hi] at h
        rw [int_mono hi (by omega)]
        exact h
/-- of a section that is cut nothing is decoded -/
theorem litD_cut {t d : Bytes} {m : Int} (h : litD t m = some (d, [])) {j : Nat} (hj : j < t.length) : litD (t.take j) m = none := by
  cases hc : litD (t.take j) m with
  | none => rfl
  | some p =>
    exfalso
    have := litD_app hc (t.drop j)
    rw [List.take_append_drop, h] at this
    simp at this
    omega
/-- by one literal less than there are nothing is decoded -/
theorem litD_few {t d r : Bytes} {m : Int} (h : litD t m = some (d, r)) : litD t ((d.length : Int) - 1) = none := by
  cases hc : litD t ((d.length : Int) - 1) with
  | none => rfl
  | some p =>
    exfalso
    have h1 := (litD_ok hc).2.2
    have h2 := (litD_ok h).2.2
    simp only at h2
    have h3 := litD_mono hc (m' := m) (by omega)
    rw [h] at h3
    cases h3
    simp only at h1
    omega
def rawT (s : Bytes) : Bytes := 0 :: (grp s.length ++ s)
def runT (n : Nat) (x : UInt8) : Bytes := 1 :: (grp n ++ [x])
def codT (n : Nat) (tb code : Bytes) : Bytes := 2 :: (grp n ++ (tb ++ txt code))
/-- a section of these literals -/
structure EncOk (s t : Bytes) : Prop where
  dec : litD t s.length = some (s, [])
  le : t.length ≤ (rawT s).length
theorem int_grp {n m : Nat} (h : n ≤ m) (hn : n ≤ 1048576) (r : Bytes) : intOut (grp n ++ r) false m = some (n, r) := by
  unfold intOut grpOut
  simp only [Bool.false_eq_true, if_false]
  rw [grp_pG n 0 r (by omega) (by simp; omega) (by omega)]
  simp only [Option.bind_some]
  rw [if_pos h]
theorem litD_grp {k : UInt8} {n : Nat} {r : Bytes} (hn : n ≤ 1048576) : litD (k :: (grp n ++ r)) n = litK k n r := by
  simp only [litD]
  rw [if_neg (by omega), int_grp (by omega) hn]
theorem raw_ok {s : Bytes} (hs : s.length ≤ 1048576) : EncOk s (rawT s) := by
  refine ⟨?_, Nat.le_refl _⟩
  unfold rawT
  rw [litD_grp hs]
  simp [litK]
theorem run_ok {n : Nat} {x : UInt8} (hn : n ≤ 1048576) (h0 : 0 < n) : EncOk (List.replicate n x) (runT n x) := by
  have hl : (List.replicate n x).length = n := by simp
  refine ⟨?_, by simp [rawT, runT]; omega⟩
  unfold runT
  rw [hl, litD_grp hn]
  simp [litK]
theorem cod_ok {s code : Bytes} {l : List Int} (hs : s.length ≤ 100000) (hw : wholeB l = true) (hsh : short l = l) (hok : okB l s) (hp : Packs (encB l s) code) (hle : (codT s.length (tableOf l) code).length ≤ (rawT s).length) : EncOk s (codT s.length (tableOf l) code) := by
  refine ⟨?_, hle⟩
  have hcl : code.length ≤ 1048576 := by
    have := packs_len hp
    have hrt : rightB l = true := by simp only [wholeB, Bool.and_eq_true] at hw; exact hw.1
    have := encB_le (right_all hrt) s
    omega
  unfold codT
  rw [litD_grp (by omega)]
  have b := back hw (txt code)
  have ht : txtOut (txt code) false 1048576 = some (code, []) := by
    unfold txtOut txt
    rw [int_grp hcl hcl]
    simp
  have : litC (tableOf l ++ txt code) s.length = some (s, []) := by
    unfold litC
    rw [if_pos b.1, b.2.2, b.2.1, hsh, ht]
    simp [decF_enc hw hok hp]
  show litK 2 s.length (tableOf l ++ txt code) = _
  unfold litK
  rw [if_neg (by decide), if_neg (by decide), if_pos (by decide)]
  exact this
/-- the last count of bytes is above 0 -/
theorem ofC_last {b : Bytes} (h : 0 < b.length) : 0 < (ofC b).length ∧ 0 < at0 (ofC b) ((ofC b).length - 1) := by
  have key : ∀ (b : Bytes) (c : List Int), (∀ k, 0 ≤ at0 c k) → (c = [] ∨ 0 < at0 c (c.length - 1)) → (b.foldl stepC c = [] ∨ 0 < at0 (b.foldl stepC c) ((b.foldl stepC c).length - 1)) := by
    intro b
    induction b with
    | nil => intro c _ h; exact h
    | cons x b ih =>
      intro c h0 h
      refine ih (stepC c x) (fun k => ?_) (.inr ?_)
      · rw [stepC_at]; have := h0 k; split <;> omega
      · rw [stepC_len, stepC_at]
        by_cases hx : c.length ≤ x.toNat
        · rw [if_pos (by omega)]; have := h0 (max c.length (x.toNat + 1) - 1); omega
        · rcases h with rfl | h
          · simp at hx
          · rw [show max c.length (x.toNat + 1) - 1 = c.length - 1 by omega]
            split <;> omega
  have hl : 0 < (ofC b).length := by
    cases b with
    | nil => simp at h
    | cons x b =>
      have : ∀ (b : Bytes) (c : List Int), c.length ≤ (b.foldl stepC c).length := by
        intro b
        induction b with
        | nil => intro c; exact Nat.le_refl _
        | cons y b ih => intro c; exact Nat.le_trans (by rw [stepC_len]; omega) (ih (stepC c y))
      exact Nat.lt_of_lt_of_le (by rw [stepC_len]; omega) (this b (stepC [] x))
  refine ⟨hl, ?_⟩
  rcases key b [] (fun k => by simp [at0]) (.inl rfl) with h | h
  · have : ofC b = [] := h
    rw [this] at hl; simp at hl
  · exact h
theorem len_short {b : Bytes} {l : List Int} {ic : Int} (h0 : 0 < b.length) (h : LenOk (ofC b) l ic) : short l = l := by
  obtain ⟨h1, h2⟩ := ofC_last h0
  refine short_full ?_
  have := (h.pos ((ofC b).length - 1)).2 h2
  rw [← h.len] at this
  exact stp_top (by rw [h.len]; exact h1) (by omega)
end Go.Proofs.YtlboioplemlneaaGreat.K
/- Literals in short: what the program writes. -/
set_option maxRecDepth 100000
set_option maxHeartbeats 4000000
set_option linter.unusedVariables false
set_option linter.unusedSimpArgs false
namespace Go.Proofs.YtlboioplemlneaaGreat.K
open Go Go.Proofs
def allB (s : Bytes) : Bool := match s with
  | [] => false
  | x :: t => decide (x :: t = List.replicate (t.length + 1) x)
section
variable {H : Heap} {s : Bytes}
theorem KQ.kp {N : Nat} {H H' : Heap} (hN : H.next ≤ H'.next) (h : KQ (fun k => k < N) H H') : Kp N H H' := ⟨hN, h.2⟩
theorem head_t (kind n : Nat) (hk : kind < 256) (hn : n ≤ 1000000) : Wf S 14 [.int .i64 kind, .int .i64 n] H fun v H' => v = .pointer (some ⟨H.next, 0, none⟩) ∧ Kp H.next H H' ∧ WrC H' H.next (UInt8.ofNat kind :: grp n) (fun k => k < H.next) := by
  refine w14 rfl rfl _ _ ?_
  have w1 : IntKind.u64.wrap (kind : Int) = kind := wu64 (by omega) (by omega)
  have w2 : IntKind.u64.wrap (n : Int) = n := wu64 (by omega) (by omega)
  simp [s14, w1]
  refine (Fixed1w_t (WrC.new (H := H)) (by simp) kind hk).mono ?_
  rintro v H1 ⟨rfl, hk1, hw1⟩
  simp [w2]
  refine (Groupw_t hw1 (by simp) n (by omega)).mono ?_
  rintro v H2 ⟨rfl, hk2, hw2⟩
  have hkk := hk1.trans hk2
  refine ⟨rfl, ⟨?_, fun k hk => ?_⟩, ?_⟩
  · have := hkk.1
    simp at this; omega
  · rw [hkk.2 k hk, get_old hk]
  · simpa using hw2
theorem LRaw_t (hs : s.length ≤ 1000000) : Wf S 10 [.string (ofL s)] H fun v H' => Kp H.next H H' ∧ v = .string (ofL (rawT s)) := by
  refine w10 rfl rfl _ ?_
  have hh := head_t (H := H) 0 s.length (by omega) hs
  simp [s10, ofL_size]
  refine Wf.mono hh ?_
  rintro v H1 ⟨rfl, hk1, hw1⟩
  try simp
  have hgl := grp_len10 (v := s.length) (by omega)
  refine (Raww_t hw1 (by simp; omega) s hs).mono ?_
  rintro v H2 ⟨rfl, hk2, hw2⟩
  try simp
  refine (Stringw_t hw2).mono ?_
  rintro v H3 ⟨rfl, rfl⟩
  refine ⟨⟨Nat.le_trans hk1.1 hk2.1, fun k hk => (hk2.2 k hk).trans (hk1.2 k hk)⟩, ?_⟩
  simp [rawT]
theorem all_t (hs : s.length ≤ 1000000) : Wf S 13 [.string (ofL s)] H fun v H' => H' = H ∧ v = .bool (allB s) := by
  refine w13 rfl rfl _ ?_
  cases s with
  | nil => simp [s13, bs_ofL, s_neq, allB]
  | cons x t =>
    have hne : ¬ (x :: t : Bytes) = [] := by simp
    have hneb : ((ofL (x :: t)).toList == (ofL []).toList) = false := by rw [toList_ofL, toList_ofL]; rfl
    have hup : ∀ {K : Kv} {H : Heap}, run S (.slS (.c (.string (ofL (x :: t)))) none (some (.c (.int .i64 1)))) [] H K = K (.string (ofL [x])) H := fun {K} {H} => by
      rw [s_upto, if_pos ⟨by omega, by simp; omega⟩]; rfl
    have hr := Rep_t (H := H) x (t.length + 1) (by simp at hs; omega)
    have hl : ((x :: t : Bytes).length : Int) = ((t.length + 1 : Nat) : Int) := by simp
    have hsz : (((ofL (x :: t)).size : Nat) : Int) = ((t.length + 1 : Nat) : Int) := by rw [ofL_size]; simp
    simp only [s13, bs_ofL, List.map_nil, run_bin, s_neq, hne, decide_false, Bool.not_false, oV_some, gd_tt, run_mv, hup, run_lenS, hsz]
    refine Wf.mono hr ?_
    rintro v H1 ⟨rfl, rfl⟩
    simp only [gd_tt, run_bin, s_eql, oV_some, run_pick_t]
    exact ⟨trivial, rfl⟩
theorem Lengths_no {a : Option Addr} {cc : Nat} {c : List Int} (hl : Iv H a c) (hm : (c.length : Int) ≤ 9223372036854775807) (hr : cright c = false) : Wf S 30 [.slice a c.length cc] H fun v H' => H' = H ∧ v = .tuple #[.slice none 0 0, .bool false] := by
  refine w30 rfl rfl _ ?_
  simp [s30]
  refine (cRight_t hl hm).mono ?_
  rintro v H1 ⟨rfl, rfl⟩
  rw [hr]
  simp [tup]
/-- what is tried: lengths of the counts, and the bytes by their codes -/
def ShR (s : Bytes) (v : Value) : Prop := (v = .tuple #[.string (ofL []), .bool false]) ∨ ∃ l ic code, 0 < s.length ∧ LenOk (ofC s) l ic ∧ Packs (encB l s) code ∧ v = .tuple #[.string (ofL (codT s.length (tableOf l) code)), .bool true]
theorem bv_row {b : Nat} {s : Bytes} {rw : Bool} (h : H.get b = .cells (bvs s) 5 rw) : Bv H (some ⟨b, 0, none⟩) s := fun _ => ⟨b, 0, bvs s, rw, rfl, h, fun i x hx => by simp [bvs, hx]⟩
theorem short_t (hs : s.length ≤ 300) : Wf S 17 [.string (ofL s)] H fun v H' => Kp H.next H H' ∧ ShR s v := by
  refine w17 rfl rfl _ ?_
  have hk1 : Kp H.next H (H.push (.cells (bvs s) 5 true)) := Kp.push (Nat.le_refl _)
  have hb1 : Bv (H.push (.cells (bvs s) 5 true)) (some ⟨H.next, 0, none⟩) s := bv_row get_last
  simp only [s17]
  rw [s_s2b (by unfold roomMax; omega)]
  generalize H.push (.cells (bvs s) 5 true) = H1 at *
  try simp
  refine (Cof_t hb1 (by omega)).mono ?_
  rintro v H2 ⟨hk2, hA2⟩
  obtain ⟨a2, c2, rfl, hi2⟩ := hA2.ivI rfl
  have hcl := ofC_len s
  have hk12 := hk1.trans (hk2.mono hk1.1)
  try simp
  cases hcr : cright (ofC s) with
  | false =>
    refine (Lengths_no hi2 (by omega) hcr).mono ?_
    rintro v H3 ⟨rfl, rfl⟩
    simp [tup, bs_ofL]
    exact ⟨hk12, .inl rfl⟩
  | true =>
    have h0 : 0 < s.length := by
      cases s with
      | nil => exact absurd hcr (by decide)
      | cons x t => simp
    refine (Lengths_t hi2 hcr (by rw [ofC_sum]; omega)).mono ?_
    rintro v H3 ⟨hk3, N, l, ic, rfl, hN, hok⟩
    have hk13 := hk12.trans (hk3.mono hk12.1)
    have hll := hok.len
    have hw := hok.whole
    have hil := iv_ints hN
    have his : Is H3 (.slice (some ⟨N, 0, none⟩) (ofC s).length (ofC s).length) l := by
      refine .inr ⟨N, 0, (ofC s).length, ints l, true, by rw [hll], .inr (by omega), hN, fun i x hx => by simp [ints, hx]⟩
    simp
    refine (Table_t his (by omega) (fun _ => whole_pos hw)).mono ?_
    rintro v H4 ⟨hk4, rfl⟩
    have hk14 := hk13.trans (hk4.mono hk13.1)
    rw [if_pos hw]
    have hk5 : Kp H4.next H4 (H4.push (.cells (bvs s) 5 true)) := Kp.push (Nat.le_refl _)
    have hb5 : Bv (H4.push (.cells (bvs s) 5 true)) (some ⟨H4.next, 0, none⟩) s := bv_row get_last
    simp
    rw [s_s2b (by unfold roomMax; omega)]
    generalize H4.push (.cells (bvs s) 5 true) = H5 at *
    have hk15 := hk14.trans (hk5.mono hk14.1)
    have henc := Encode_t (c := (ofC s).length) (c2 := capx) ((hil.kp hk4).kp hk5) (by omega) hb5 (by omega)
    rw [hll] at henc
    try simp
    refine henc.mono ?_
    rintro v H6 ⟨hk6, h⟩
    have hk16 := hk15.trans (hk6.mono hk15.1)
    rcases h with ⟨_, hokb, code, rfl, hp⟩ | ⟨hno, _⟩
    · have hrt : rightB l = true := by simp only [wholeB, Bool.and_eq_true] at hw; exact hw.1
      have hpl := packs_len hp
      have hel := encB_le (right_all hrt) s
      have htl : (tableOf l).length ≤ 200 := by
        have := shortN_le l
        simp only [tableOf, List.length_cons, tabs_len]
        omega
      have hgl := grp_len10 (v := s.length) (by omega)
      have hh := head_t (H := H6) 2 s.length (by omega) (by omega)
      simp [ofL_size]
      refine Wf.mono hh ?_
      rintro v H7 ⟨rfl, hk7, hw7⟩
      try simp
      refine (Raww_t hw7 (by simp; omega) (tableOf l) (by omega)).mono ?_
      rintro v H8 ⟨rfl, hk8, hw8⟩
      try simp
      refine (Textw_t hw8 (by simp; omega) code (by omega)).mono ?_
      rintro v H9 ⟨rfl, hk9, hw9⟩
      try simp
      refine (Stringw_t hw9).mono ?_
      rintro v H10 ⟨rfl, rfl⟩
      have hk69 : Kp H6.next H6 H10 := ⟨Nat.le_trans hk7.1 (Nat.le_trans hk8.1 hk9.1), fun k hk => ((hk9.2 k hk).trans (hk8.2 k hk)).trans (hk7.2 k hk)⟩
      simp [tup]
      refine ⟨hk16.trans (hk69.mono hk16.1), .inr ⟨l, ic, code, h0, hok, hp, ?_⟩⟩
      simp [codT]
    · exact absurd ⟨hw, len_ok hok⟩ hno
theorem LEncode_t (hs : s.length ≤ 300) : Wf S 6 [.string (ofL s)] H fun v H' => Kp H.next H H' ∧ ∃ t, v = .string (ofL t) ∧ EncOk s t := by
  refine w6 rfl rfl _ ?_
  simp [s6]
  refine (all_t (by omega)).mono ?_
  rintro v H1 ⟨rfl, rfl⟩
  cases hall : allB s with
  | true =>
    cases s with
    | nil => cases hall
    | cons x t =>
      simp only [allB, decide_eq_true_eq] at hall
      simp only [List.length_cons] at hs
      have hup : ∀ {K : Kv} {H : Heap}, run S (.slS (.c (.string (ofL (x :: t)))) none (some (.c (.int .i64 1)))) [] H K = K (.string (ofL [x])) H := fun {K} {H} => by
        rw [s_upto, if_pos ⟨by omega, by simp; omega⟩]; rfl
      have hh := head_t (H := H1) 1 (t.length + 1) (by omega) (by omega)
      have hgl := grp_len10 (v := t.length + 1) (by omega)
      simp [hup, ofL_size]
      refine Wf.mono hh ?_
      rintro v H2 ⟨rfl, hk2, hw2⟩
      try simp
      refine (Raww_t hw2 (by simp; omega) [x] (by simp)).mono ?_
      rintro v H3 ⟨rfl, hk3, hw3⟩
      try simp
      refine (Stringw_t hw3).mono ?_
      rintro v H4 ⟨rfl, rfl⟩
      have hrun := run_ok (n := t.length + 1) (x := x) (by omega) (by omega)
      rw [← hall] at hrun
      refine ⟨⟨Nat.le_trans hk2.1 hk3.1, fun k hk => (hk3.2 k hk).trans (hk2.2 k hk)⟩, runT (t.length + 1) x, ?_, hrun⟩
      simp [runT]
  | false =>
    simp
    refine (LRaw_t (by omega)).mono ?_
    rintro v H2 ⟨hk2, rfl⟩
    try simp
    refine (short_t hs).mono ?_
    rintro v H3 ⟨hk3, h⟩
    have hk23 := hk2.trans (hk3.mono hk2.1)
    rcases h with rfl | ⟨l, ic, code, h0, hok, hp, rfl⟩
    · simp
      exact ⟨hk23, rawT s, rfl, raw_ok (by omega)⟩
    · by_cases hlt : (codT s.length (tableOf l) code).length < (rawT s).length
      · have hlt' : ((codT s.length (tableOf l) code).length : Int) < (rawT s).length := by omega
        simp [ofL_size, hlt]
        exact ⟨hk23, _, rfl, cod_ok (by omega) hok.whole (len_short h0 hok) (len_ok hok) hp (by omega)⟩
      · simp [ofL_size, hlt]
        exact ⟨hk23, rawT s, rfl, raw_ok (by omega)⟩
end
end Go.Proofs.YtlboioplemlneaaGreat.K
