/- Dictionaries of what comes again, walked: the piece that is worth most by now. -/
import Derived.Test.YtlboioplemlneaaPD
set_option maxRecDepth 100000
set_option maxHeartbeats 4000000
set_option linter.unusedVariables false
set_option linter.unusedSimpArgs false
set_option linter.unusedSectionVars false
namespace Go.Proofs.Ytlboioplemlneaa.K
open Go Go.Proofs
/-- the heap has all pieces but those that are worth nothing; what each one is said to be worth is no less than what it is worth -/
structure PI (W : Bytes → Nat) (P : List Bytes) (l : Array Pc) : Prop where
  a : ∀ x ∈ l, P[x.o]? = some x.s ∧ worthS W x.s ≤ x.w
  b : ∀ (i : Nat) q, P[i]? = some q → (∃ x ∈ l, x.o = i) ∨ worthS W q = 0
theorem PI.perm {W : Bytes → Nat} {P : List Bytes} {l l' : Array Pc} (h : PI W P l) (hp : l'.Perm l) : PI W P l' :=
  ⟨fun x hx => h.a x ((Array.Perm.mem_iff hp).1 hx), fun i q hq => (h.b i q hq).imp (fun ⟨x, hx, e⟩ => ⟨x, (Array.Perm.mem_iff hp).2 hx, e⟩) id⟩
theorem IsP.pi {W : Bytes → Nat} {P : List Bytes} {l : Array Pc} (h : IsP W P l) : PI W P l :=
  ⟨fun x hx => by
    obtain ⟨i, hi, e⟩ := Array.mem_iff_getElem.1 hx
    have hl : i < P.length := by have := h.1; omega
    have h2 := h.2 i P[i] (List.getElem?_eq_getElem hl)
    rw [Array.getElem?_eq_getElem hi, e] at h2
    simp only [Option.some.injEq] at h2
    rw [h2]
    exact ⟨List.getElem?_eq_getElem hl, Nat.le_refl _⟩, fun i q hq => .inl ⟨_, Array.mem_of_getElem? (h.2 i q hq), rfl⟩⟩
theorem PI.none {W : Bytes → Nat} {P : List Bytes} {l : Array Pc} (h : PI W P l) (h0 : l.size = 0) : (pickF W P (0, [])).1 = 0 := by
  rcases pickF_mem W P (0, []) with e | ⟨p, hp, e⟩
  · rw [e]
  · rw [e]
    obtain ⟨i, hi⟩ := List.mem_iff_getElem?.1 hp
    rcases h.b i p hi with ⟨x, hx, _⟩ | h
    · obtain ⟨j, hj, _⟩ := Array.mem_iff_getElem.1 hx
      omega
    · exact h
theorem PI.best {W : Bytes → Nat} {P : List Bytes} {l : Array Pc} {x : Pc} (h : PI W P (l.push x)) (hx : worthS W x.s = x.w) (hlt : ∀ y ∈ l, ltP y x = false) :
    (0 < x.w → pickF W P (0, []) = (x.w, x.s)) ∧ (x.w = 0 → (pickF W P (0, [])).1 = 0) := by
  have hle : ∀ i q, P[i]? = some q → worthS W q ≤ x.w ∧ (i < x.o → 0 < x.w → worthS W q < x.w) := fun i q hq => by
    rcases h.b i q hq with ⟨y, hy, e⟩ | h0
    · have hya := h.a y hy
      rw [e, hq] at hya
      simp only [Option.some.injEq] at hya
      obtain ⟨e2, hy2⟩ := hya
      rcases Array.mem_push.1 hy with hy | rfl
      · have := hlt y hy
        simp only [ltP, Bool.or_eq_false_iff, Bool.and_eq_false_iff, decide_eq_false_iff_not] at this
        rw [← e2] at hy2
        exact ⟨by omega, fun h1 _ => by omega⟩
      · rw [e2]
        exact ⟨by omega, fun h1 _ => by omega⟩
    · exact ⟨by omega, fun _ _ => by omega⟩
  have hxa := h.a x (Array.mem_push.2 (.inr rfl))
  refine ⟨fun h0 => ?_, fun h0 => ?_⟩
  · rw [← hx]
    refine pickF_at W P (0, []) x.o x.s hxa.1 (by simp only; omega) (fun q hq => ?_) (fun j q hj hq => ?_)
    · obtain ⟨i, hi⟩ := List.mem_iff_getElem?.1 hq
      have := (hle i q hi).1; omega
    · have := (hle j q hq).2 hj h0; omega
  · rcases pickF_mem W P (0, []) with e | ⟨p, hp, e⟩
    · rw [e]
    · rw [e]
      obtain ⟨i, hi⟩ := List.mem_iff_getElem?.1 hp
      have := (hle i p hi).1
      simp only; omega
theorem PI.less {W : Bytes → Nat} {P : List Bytes} {l : Array Pc} {x : Pc} (h : PI W P (l.push x)) : PI W P (l.push ⟨x.s, worthS W x.s, x.o⟩) :=
  ⟨fun y hy => by
    rcases Array.mem_push.1 hy with hy | rfl
    · exact h.a y (Array.mem_push.2 (.inl hy))
    · exact ⟨(h.a x (Array.mem_push.2 (.inr rfl))).1, Nat.le_refl _⟩, fun i q hq => by
    rcases h.b i q hq with ⟨y, hy, e⟩ | h0
    · left
      rcases Array.mem_push.1 hy with hy | rfl
      · exact ⟨y, Array.mem_push.2 (.inl hy), e⟩
      · exact ⟨_, Array.mem_push.2 (.inr rfl), e⟩
    · exact .inr h0⟩
theorem PI.taken {W W' : Bytes → Nat} {P : List Bytes} {l : Array Pc} {x : Pc} (h : PI W P (l.push x)) (hW : ∀ g, W' g ≤ W g) (hx : worthS W' x.s = 0) : PI W' P l :=
  ⟨fun y hy => by
    obtain ⟨h1, h2⟩ := h.a y (Array.mem_push.2 (.inl hy))
    exact ⟨h1, Nat.le_trans (worthS_mono hW _) h2⟩, fun i q hq => by
    rcases h.b i q hq with ⟨y, hy, e⟩ | h0
    · rcases Array.mem_push.1 hy with hy | rfl
      · exact .inl ⟨y, hy, e⟩
      · right
        have := (h.a y hy).1
        rw [e, hq] at this
        simp only [Option.some.injEq] at this
        rw [this]; exact hx
    · right
      have := worthS_mono hW q
      omega⟩
def sumP (l : Array Pc) : Nat := (l.toList.map (·.w)).sum
theorem sumP_perm {l l' : Array Pc} (h : l'.Perm l) : sumP l' = sumP l := ((Array.perm_iff_toList_perm.1 h).map _).sum_nat
theorem sumP_push (l : Array Pc) (x : Pc) : sumP (l.push x) = sumP l + x.w := by simp [sumP]
/-- the answer: the piece that is worth most, or that none is worth anything -/
def BestV (Kb : Nat → Prop) (W : Bytes → Nat) (P : List Bytes) (p : Nat) (H : Heap) (v : Value) (H' : Heap) : Prop :=
  H.next ≤ H'.next ∧ (∀ k, Kb k → H'.get k = H.get k) ∧ ((∃ x, v = .tuple #[.agg (pcC x).toArray, .bool false] ∧ (pickF W P (0, [])).1 = 0) ∨
    ∃ x l', v = .tuple #[.agg (pcC x).toArray, .bool true] ∧ 0 < x.w ∧ pickF W P (0, []) = (x.w, x.s) ∧ Qp Kb H' p H' l' ∧ HeapF ltP l' 0 l'.size ∧ PI W P (l'.push x) ∧ l'.size ≤ 100000)
section
variable {H : Heap}
structure BsI (Kb : Nat → Prop) (HB : Heap) (W : Bytes → Nat) (P : List Bytes) (p R mb : Nat) (d : Nat) (e : Fe) (H : Heap) (l : Array Pc) : Prop where
  h2 : d = sumP l
  nx : HB.next ≤ H.next
  q : Qp (fun k => Kb k ∨ k = R) HB p H l
  pi : PI W P l
  hf : HeapF ltP l 0 l.size
  sz : l.size ≤ 100000
  e0 : e 0 = .pointer (some ⟨p, 0, none⟩)
  e1 : e 1 = .map (some mb)
  e4 : e 4 = .pointer (some ⟨R, 0, none⟩)
theorem best_t {Kb : Nat → Prop} {p mb : Nat} {W : Bytes → Nat} {P : List Bytes} {l : Array Pc} (hP : ∀ s ∈ P, s.length ≤ 1000) (hM : MW H mb W) (hmb : Kb mb) (hW : ∀ g, W g ≤ 1000) (hq : Qp Kb H p H l) (hpi : PI W P l) (hf : HeapF ltP l 0 l.size) (hsz : l.size ≤ 100000) :
    Wf S 79 [.pointer (some ⟨p, 0, none⟩), .map (some mb)] H fun v H' => BestV Kb W P p H v H' := by
  refine w79 rfl rfl _ _ ?_
  obtain ⟨R, hR⟩ : ∃ R, R = H.next := ⟨_, rfl⟩
  obtain ⟨HB, hHB⟩ : ∃ HB, HB = H.push (.cells [.string (bs []), .int .i64 0, .int .i64 0] 112 true) := ⟨_, rfl⟩
  have hkB : Kp H.next H HB := hHB ▸ Kp.push (Nat.le_refl _)
  have gR : HB.get R = .cells [.string (bs []), .int .i64 0, .int .i64 0] 112 true := by rw [hHB, hR]; exact get_last
  have hRlt : R < HB.next := lt_cells gR
  have hqB : Qp (fun k => Kb k ∨ k = R) HB p HB l := hq.re hkB.1 (fun k _ hk => hkB.2 k hk) (fun k hk => by
    rcases hk with hk | rfl
    · exact ⟨Nat.lt_of_lt_of_le (hq.kp k hk).1 hkB.1, .inl hk⟩
    · exact ⟨hRlt, .inr (by omega)⟩)
  have hMB : MW HB mb W := hM.get (hkB.2 mb hM.lt)
  have hKbl : ∀ k, Kb k → k < H.next := fun k hk => (hq.kp k hk).1
  simp [s79]
  rw [← hHB, ← hR]
  refine l79_0 S (fun d e H' => ∃ l, BsI Kb HB W P p R mb d e H' l) (sumP l) ⟨l, rfl, Nat.le_refl _, hqB, hpi, hf, hsz, by simp, by simp, by simp⟩ ?_
  rintro d e H1 ⟨l1, rfl, hnx, hq1, hpi1, hf1, hsz1, e0, e1, e4⟩
  obtain ⟨b, c, cs, q1, q2, q3, q4, q5, q6⟩ := hq1.v
  have gR1 : H1.get R = .cells [.string (bs []), .int .i64 0, .int .i64 0] 112 true := (hq1.kp R (.inr rfl)).2.trans gR
  have hlen : Wf S 112 [.slice (some ⟨b, 0, none⟩) l1.size c] H1 fun v H' => H' = H1 ∧ v = .int .i64 l1.size := by
    refine w112 rfl rfl _ ?_
    simp [s112]
  have hmki : ∀ {K : Kv} {H : Heap}, run S (.mki 109 (.c (.pointer (some ⟨p, 0, none⟩)))) [] H K = K (a0P p) H := fun {K H} => rfl
  by_cases h0 : 0 < l1.size
  · have h0' : (0 : Int) < l1.size := by omega
    simp [s79_0, e0, e1, e4, q2]
    refine hlen.mono ?_
    rintro v Hx ⟨rfl, rfl⟩
    simp [h0, h0', e0, e1, e4]
    rw [hmki]
    refine (Pop_t (pieces_q (N := fun k => Kb k ∨ k = R) (H0 := HB)) ltP_ord hq1 h0 hf1).mono ?_
    rintro v H2 ⟨x, l2, rfl, _, hq2, hp2, hf2, hlt2⟩
    have hpi2 : PI W P (l2.push x) := hpi1.perm hp2
    have hl2 : l2.size + 1 = l1.size := by
      have := (Array.perm_iff_toList_perm.1 hp2).length_eq
      simpa using this
    have hs2 : sumP l2 + x.w = sumP l1 := by rw [← sumP_push]; exact sumP_perm hp2
    have hx2 := hpi2.a x (Array.mem_push.2 (.inr rfl))
    have hxl := hP x.s (List.mem_of_getElem? hx2.1)
    obtain ⟨T, hT⟩ : ∃ T, T = H2.next := ⟨_, rfl⟩
    obtain ⟨H3, hH3⟩ : ∃ H3, H3 = H2.push (.cells (pcC x) 112 true) := ⟨_, rfl⟩
    have hk3 : Kp H2.next H2 H3 := hH3 ▸ Kp.push (Nat.le_refl _)
    have gT : H3.get T = .cells (pcC x) 112 true := by rw [hH3, hT]; exact get_last
    have hst : kStn (H2.push (.cells [.string (bs []), .int .i64 0, .int .i64 0] 112 true)) 3 (.pointer (some ⟨T, 0, none⟩)) (.agg (pcC x).toArray) = some H3 := by
      have gl := get_last (H := H2) (b := .cells [.string (bs []), .int .i64 0, .int .i64 0] 112 true)
      rw [← hT] at gl
      rw [kStn_wr (v := pcC x) (n := 3) (o := 0) gl (by simp) rfl, hT, put_last, hH3]
      rfl
    have hq3 := hq2.step hk3
    have hM3 : MW H3 mb W := hMB.get (hq3.kp mb (.inl hmb)).2
    have htas : ∀ {K : Kv} {z : Value} {H : Heap}, run S (.tas 112 z true (.c (elP x))) [] H K = K (.tuple #[.agg (pcC x).toArray, .bool true]) H := fun {K z H} => rfl
    have c0 : (pcC x)[0]? = some (.string (ofL x.s)) := rfl
    have c1 : (pcC x)[1]? = some (.int .i64 x.w) := rfl
    try simp
    rw [htas]
    simp
    rw [← hT, hst]
    simp [gT, addOff, c0]
    refine (worth_t hM3 hW x.s (by omega)).mono ?_
    rintro v H4 ⟨hk4, rfl⟩
    have hq4 := hq3.step hk4
    have gT4 : H4.get T = .cells (pcC x) 112 true := (hk4.2 T (lt_cells gT)).trans gT
    by_cases hw : worthS W x.s = x.w
    · have hw' : (worthS W x.s : Int) = x.w := by omega
      have l2' := kLdn_rd (H := H4) (o := 0) (n := 3) (v := pcC x) gT4 ((rdz_some (pcC_len x)).2 ⟨by simp [pcC], fun j hj => by simp⟩)
      have gR4 : H4.get R = .cells [.string (bs []), .int .i64 0, .int .i64 0] 112 true := (hq4.kp R (.inr rfl)).2.trans gR
      obtain ⟨H5, hH5⟩ : ∃ H5, H5 = H4.put R (.cells (pcC x) 112 true) := ⟨_, rfl⟩
      have hst5 : kStn H4 3 (.pointer (some ⟨R, 0, none⟩)) (.agg (pcC x).toArray) = some H5 := by
        rw [kStn_wr (v := pcC x) (n := 3) (o := 0) gR4 (by simp) rfl, hH5]; rfl
      have hTR : T ≠ R := by
        have := (hq2.kp R (.inr rfl)).1
        omega
      have gT5 : H5.get T = .cells (pcC x) 112 true := by rw [hH5, get_put_ne hTR]; exact gT4
      have gR5 : H5.get R = .cells (pcC x) 112 true := by rw [hH5]; exact get_put_eq (lt_cells gR4)
      have l5 := kLdn_rd (H := H5) (o := 0) (n := 3) (v := pcC x) gR5 ((rdz_some (pcC_len x)).2 ⟨by simp [pcC], fun j hj => by simp⟩)
      have hKR : ∀ k, Kb k → k ≠ R := fun k hk e => by have := hKbl k hk; omega
      have hb := hpi2.best hw hlt2
      have hn5 : H5.next = H4.next := by rw [hH5, next_put]
      have hkeep : ∀ k, Kb k → H5.get k = H.get k := fun k hk => by
        rw [hH5, get_put_ne (hKR k hk), (hq4.kp k (.inl hk)).2]
        exact hkB.2 k (hKbl k hk)
      have hnn : H.next ≤ H5.next := by
        have h1 := (hq4.kp R (.inr rfl)).1
        rw [hn5]; omega
      have hq5 : Qp Kb H5 p H5 l2 := hq4.re (by omega) (fun k hk hk2 => by rw [hH5, get_put_ne (fun e => hk (.inr e))]) (fun k hk => ⟨by rw [hn5]; exact (hq4.kp k (.inl hk)).1, .inl (.inl hk)⟩)
      by_cases hw0 : 0 < x.w
      · have hw0' : (0 : Int) < x.w := by omega
        simp [gT4, addOff, c1, hw, hw', l2', hw0, hw0', e4, hst5, ck, kop_ld, gT5, veq, veq1, l5, tup]
        exact ⟨hnn, hkeep, .inr ⟨x, l2, rfl, hw0, hb.1 hw0, hq5, hf2, hpi2, by omega⟩⟩
      · have hw0' : ¬ (0 : Int) < x.w := by omega
        simp [gT4, addOff, c1, hw, hw', l2', hw0, hw0', e4, hst5, ck, kop_ld, gT5, veq, veq1, l5, tup]
        exact ⟨hnn, hkeep, .inl ⟨x, rfl, hb.2 (by omega)⟩⟩
    · have hw' : ¬ (worthS W x.s : Int) = x.w := by omega
      obtain ⟨y, hy⟩ : ∃ y : Pc, y = ⟨x.s, worthS W x.s, x.o⟩ := ⟨_, rfl⟩
      obtain ⟨H5, hH5⟩ : ∃ H5, H5 = H4.put T (.cells (pcC y) 112 true) := ⟨_, rfl⟩
      have hst5 : kSt H4 (.pointer (some ⟨T, 1, none⟩)) (.int .i64 (worthS W x.s)) = some H5 := by
        simp [kSt, gT4, oneC, pcC, hH5, hy]
      have gT5 : H5.get T = .cells (pcC y) 112 true := by rw [hH5]; exact get_put_eq (lt_cells gT4)
      have l5 := kLdn_rd (H := H5) (o := 0) (n := 3) (v := pcC y) gT5 ((rdz_some (pcC_len y)).2 ⟨by simp [pcC], fun j hj => by simp⟩)
      have hT2 := lt_cells gT4
      have hTf : H2.next ≤ T := by omega
      -- T is none of the heap's blocks
      obtain ⟨b2, c2, cs2, r1, r2, r3, r4, r5, r6⟩ := hq2.v
      have hpT : p ≠ T := by have := lt_cells r2; omega
      have hbT : b2 ≠ T := by have := lt_cells r4; omega
      have hq5 : Qp (fun k => Kb k ∨ k = R) HB p H5 l2 := by
        refine ⟨fun k hk => ⟨by rw [hH5, next_put]; exact (hq4.kp k hk).1, ?_⟩, hq4.hp, hq4.sm, ⟨b2, c2, cs2, r1, ?_, r3, ?_, r5, r6⟩⟩
        · have := (hq2.kp k hk).1
          rw [hH5, get_put_ne (by omega)]; exact (hq4.kp k hk).2
        · rw [hH5, get_put_ne hpT, hk4.2 p (by have := lt_cells r2; have := hk3.1; omega), hk3.2 p (lt_cells r2)]; exact r2
        · rw [hH5, get_put_ne hbT, hk4.2 b2 (by have := lt_cells r4; have := hk3.1; omega), hk3.2 b2 (lt_cells r4)]; exact r4
      have hl2 : l2.size + 1 = l1.size := by
        have := (Array.perm_iff_toList_perm.1 hp2).length_eq
        simpa using this
      have hmki2 : ∀ {K : Kv} {H : Heap}, run S (.mki 112 (.c (.agg (pcC y).toArray))) [] H K = K (elP y) H := fun {K H} => rfl
      simp [gT4, addOff, c1, hw, hw', hst5, e0, l5]
      rw [hmki]
      try simp [l5]
      rw [hmki2]
      refine (Push_t (pieces_q (N := fun k => Kb k ∨ k = R) (H0 := HB)) ltP_ord hq5 hf2 trivial (by omega)).mono ?_
      rintro v H6 ⟨l6, hq6, hp6, hf6⟩
      try simp
      have hs6 : sumP l6 = sumP l2 + worthS W x.s := by rw [sumP_perm hp6, sumP_push, hy]
      have hz6 : l6.size = l2.size + 1 := by
        have := (Array.perm_iff_toList_perm.1 hp6).length_eq
        simpa using this
      have hlt6 : worthS W x.s < x.w := by have := hx2.2; omega
      refine ⟨sumP l6, by omega, l6, rfl, ?_, hq6, (by rw [hy] at hp6; exact hpi2.less.perm hp6), hf6, by omega, by simp [e0], by simp [e1], by simp [e4]⟩
      have := (hq6.kp R (.inr rfl)).1
      rw [hHB]; simp; omega
  · have h0' : ¬ (0 : Int) < l1.size := by omega
    obtain ⟨H2, hH2⟩ : ∃ H2, H2 = H1.put R (.cells [.string (bs []), .int .i64 0, .int .i64 0] 112 true) := ⟨_, rfl⟩
    have hst2 : kStn H1 3 (.pointer (some ⟨R, 0, none⟩)) (.agg #[.string (bs []), .int .i64 0, .int .i64 0]) = some H2 := by
      have := kStn_wr (v := [.string (bs []), .int .i64 0, .int .i64 0]) (n := 3) (o := 0) gR1 (by simp) rfl
      rw [this, hH2]; rfl
    have gR2 : H2.get R = .cells [.string (bs []), .int .i64 0, .int .i64 0] 112 true := by rw [hH2]; exact get_put_eq (lt_cells gR1)
    have l2 := kLdn_rd (H := H2) (o := 0) (n := 3) (v := [.string (bs []), .int .i64 0, .int .i64 0]) gR2 ((rdz_some rfl).2 ⟨Nat.le_refl _, fun j hj => by rw [Nat.zero_add]⟩)
    have hbs : (Value.string (bs [])) = .string (ofL []) := rfl
    simp [s79_0, e0, e1, e4, q2]
    refine hlen.mono ?_
    rintro v Hx ⟨rfl, rfl⟩
    simp [h0, h0', e0, e1, e4, kFill, evPs, hst2, l2, tup]
    have hKR : ∀ k, Kb k → k ≠ R := fun k hk e => by have := hKbl k hk; omega
    refine ⟨by rw [hH2, next_put]; have := hkB.1; omega, fun k hk => ?_, .inl ⟨⟨[], 0, 0⟩, rfl, hpi1.none (by omega)⟩⟩
    rw [hH2, get_put_ne (hKR k hk), (hq1.kp k (.inl hk)).2]
    exact hkB.2 k (hKbl k hk)
end
end Go.Proofs.Ytlboioplemlneaa.K
/- Dictionaries of what comes again, walked: what is chosen. -/
set_option maxRecDepth 100000
set_option maxHeartbeats 4000000
set_option linter.unusedVariables false
set_option linter.unusedSimpArgs false
set_option linter.unusedSectionVars false
namespace Go.Proofs.Ytlboioplemlneaa.K
open Go Go.Proofs
/-- texts gathered by append, in a block of their own -/
def OutS (H : Heap) (v : Value) (L : List Bytes) (ob : Option Nat) : Prop := (ob = none ∧ L = [] ∧ v = .slice none 0 0) ∨ ∃ b, ob = some b ∧ v = .slice (some ⟨b, 0, none⟩) L.length capx ∧ H.get b = .cells (strs L) 9 true
theorem OutS.get {H H' : Heap} {v : Value} {L : List Bytes} {ob : Option Nat} (h : OutS H v L ob) (hk : ∀ b, ob = some b → H'.get b = H.get b) : OutS H' v L ob := by
  rcases h with h | ⟨b, h1, h2, h3⟩
  · exact .inl h
  · exact .inr ⟨b, h1, h2, (hk b h1).trans h3⟩
theorem OutS.app {H : Heap} {v : Value} {L : List Bytes} {ob : Option Nat} (h : OutS H v L ob) (hl : L.length ≤ 100000) (x : Bytes) :
    ∃ v' H' b', kRow (H.push (.cells [.string (ofL x)] 9 true)) 9 1 1 (some ⟨H.next, 0, none⟩) = some [.string (ofL x)] ∧ kApp (H.push (.cells [.string (ofL x)] 9 true)) 9 1 16 v 1 [.string (ofL x)] = some (v', H') ∧
      OutS H' v' (L ++ [x]) (some b') ∧ H.next ≤ b' ∧ b' < H'.next ∧ ∀ k, k < H.next → ob ≠ some k → H'.get k = H.get k := by
  obtain ⟨HN, hHN⟩ : ∃ HN, HN = H.push (.cells [.string (ofL x)] 9 true) := ⟨_, rfl⟩
  have hNn : HN.next = H.next + 1 := by rw [hHN]; simp
  have hrow : kRow HN 9 1 1 (some ⟨H.next, 0, none⟩) = some [.string (ofL x)] := by rw [hHN]; simp [kRow, rd]
  rw [← hHN]
  rcases h with ⟨rfl, rfl, rfl⟩ | ⟨b, rfl, rfl, hg⟩
  · refine ⟨.slice (some ⟨HN.next, 0, none⟩) 1 capx, HN.push (.cells [.string (ofL x)] 9 true), HN.next, hrow, ?_, .inr ⟨HN.next, rfl, by simp, by rw [get_last]; rfl⟩, by omega, by simp, fun k hk _ => by rw [get_old (by omega), hHN, get_old (by omega)]⟩
    have hr : 1 * 16 ≤ roomMax ∧ 1 ≤ roomMax := by unfold roomMax; omega
    simp only [kApp, hr, and_self, if_true, Nat.one_ne_zero, if_false]
  · have hlt := lt_cells hg
    have hgN : HN.get b = .cells (strs L) 9 true := by rw [hHN, get_old hlt]; exact hg
    have hrd : rd (strs L) 0 L.length = some (strs L) := by
      unfold rd
      rw [if_pos (by rw [strs_len]; omega), List.drop_zero, List.take_of_length_le (by rw [strs_len]; omega)]
    have hr : (L.length + 1) * 16 ≤ roomMax ∧ L.length + 1 ≤ roomMax := by unfold roomMax; omega
    have hss : strs L ++ [.string (ofL x)] = strs (L ++ [x]) := by simp [strs, encS]
    refine ⟨.slice (some ⟨HN.next, 0, none⟩) (L.length + 1) capx, (HN.put b .dead).push (.cells (strs L ++ [.string (ofL x)]) 9 true), HN.next, hrow, ?_, .inr ⟨HN.next, rfl, by simp, ?_⟩, by omega, by simp [next_put], fun k hk hne => by rw [get_old (by rw [next_put]; omega), get_put_ne (by rintro rfl; exact hne rfl), hHN, get_old (by omega)]⟩
    · simp only [kApp, hgN, hr, and_self, if_true, Nat.mul_one, hrd, Option.map_some, Nat.one_ne_zero, if_false]
    · have := get_last (H := HN.put b .dead) (b := .cells (strs L ++ [.string (ofL x)]) 9 true)
      rw [next_put, hss] at this
      rw [hss]; exact this
/-- what was chosen, in memory -/
def PcV (rs : List Bytes) (size : Int) (H : Heap) (v : Value) (H' : Heap) : Prop := Kp H.next H H' ∧ ∃ out ob, OutS H' v out ob ∧ (∀ b, ob = some b → H.next ≤ b) ∧ Pk rs size [] out ∧ out.length ≤ 256
theorem pcs_mem {rs : List Bytes} {s : Bytes} (h : s ∈ pcs rs) : 6 ≤ s.length ∧ s.length ≤ 16 := by
  unfold pcs at h
  obtain ⟨r, hr, hs⟩ := List.mem_flatMap.1 h
  unfold winsL at hs
  split at hs
  · simp at hs
  · obtain ⟨i, hi, rfl⟩ := List.mem_map.1 hs
    have hi' := List.mem_range.1 hi
    have hb : bestN r = min 16 r.length := rfl
    rw [winD_len (by omega)]; omega
theorem brL_len {l : List Bytes} : (brL l).length ≤ 64 ∧ ∀ r ∈ brL l, r.length ≤ 512 := by
  unfold brL
  refine ⟨by simp; omega, fun r hr => ?_⟩
  obtain ⟨x, hx, rfl⟩ := List.mem_map.1 hr
  rw [List.length_take]; omega
theorem WG_bd {rs taken : List Bytes} (h : rs.length ≤ 64) (g : Bytes) : WG rs taken g ≤ 1000 := by
  have := cntG_le rs g
  unfold WG WG0; split <;> omega
section
variable {H : Heap}
structure PcI (HS : Heap) (rs : List Bytes) (size : Int) (p mb : Nat) (d : Nat) (e : Fe) (H : Heap) (Kb : Nat → Prop) (l : Array Pc) (taken : List Bytes) (cur : Nat) (ob : Option Nat) : Prop where
  h2 : d = totalW (WG rs taken) (pcs rs)
  kp : Kp HS.next HS H
  q : Qp Kb H p H l
  pi : PI (WG rs taken) (pcs rs) l
  hf : HeapF ltP l 0 l.size
  sz : l.size ≤ 100000
  mw : MW H mb (WG rs taken)
  kmb : Kb mb
  ks : ∀ k, k < HS.next → Kb k
  kob : ∀ b, ob = some b → Kb b ∧ HS.next ≤ b ∧ b ≠ mb
  out : OutS H (e 8) taken ob
  pk : ∀ out, Pk rs cur taken out → Pk rs size [] out
  bd : taken.length + cur ≤ 256
  e1 : e 1 = .int .i64 cur
  e6 : e 6 = .map (some mb)
  e7 : e 7 = .pointer (some ⟨p, 0, none⟩)
theorem Pieces_t {v : Value} {l : List Bytes} {size : Int} (hl : SIs H v l) (hn : l.length ≤ 100000) :
    Wf S 30 [v, .int .i64 size] H fun v H' => PcV (brL l) (min (max size 0) 256) H v H' := by
  refine w30 rfl rfl _ _ ?_
  obtain ⟨cur0, hcur0⟩ : ∃ c : Nat, min (max size 0) 256 = (c : Int) := ⟨(min (max size 0) 256).toNat, by omega⟩
  rw [hcur0]
  have hmm : min 256 (max size 0) = (cur0 : Int) := by omega
  simp [s30, hcur0, hmm]
  refine (brought_t hl hn).mono ?_
  rintro v1 H1 ⟨hk1, hA1⟩
  obtain ⟨a1, c1, rfl, hsv1⟩ := hA1.sv rfl
  obtain ⟨rs, hrs⟩ : ∃ rs, rs = brL l := ⟨_, rfl⟩
  have hrl := brL_len (l := l)
  rw [← hrs] at hrl hsv1 ⊢
  try simp
  refine (of_t hsv1 (by omega) (fun r hr => by have := hrl.2 r hr; omega)).mono ?_
  rintro v2 H2 ⟨hk2, mb, rfl, hmb, hM2⟩
  have hW0 : WG0 rs = WG rs [] := by funext g; simp [WG]
  rw [hW0] at hM2
  try simp
  refine (cut_t (hsv1.kp hk2) hM2 (WG_bd hrl.1) hrl.1 hrl.2).mono ?_
  rintro v3 H3 ⟨p, l3, l0, rfl, hq3, hip, hp3, hf3⟩
  have hk3 : Kp H2.next H2 H3 := ⟨by have := (hq3.kp mb hM2.lt).1; have := (hq3.kp (H2.next - 1) (by show _ < _; have := hM2.lt; omega)).1; omega, fun k hk => (hq3.kp k hk).2⟩
  have hk13 : Kp H.next H H3 := (hk1.trans (hk2.mono hk1.1)).trans (hk3.mono (by have := hk1.1; have := hk2.1; omega))
  have hpl : (pcs rs).length ≤ 32768 := by
    have h1 := pcs_len (b := 512) (l := rs) hrl.2
    have h2 : rs.length * 512 ≤ 64 * 512 := Nat.mul_le_mul_right _ hrl.1
    omega
  have hs3 : l3.size = (pcs rs).length := by
    have := (Array.perm_iff_toList_perm.1 hp3).length_eq
    have h1 := hip.1
    simp at this; omega
  have hn1 := hk1.1
  have hn2 := hk2.1
  try simp
  refine l30_0 S (fun d e H' => ∃ Kb l taken cur ob, PcI H rs cur0 p mb d e H' Kb l taken cur ob) (totalW (WG rs []) (pcs rs))
    ⟨fun k => k < H2.next, l3, [], cur0, none, rfl, hk13, ⟨fun k hk => ⟨(hq3.kp k hk).1, rfl⟩, hq3.hp, hq3.sm, hq3.v⟩, hip.pi.perm hp3, hf3, by omega, hM2.get (hk3.2 mb hM2.lt), hM2.lt, (fun k hk => by show _ < _; omega), (fun b hb => by cases hb), .inl ⟨rfl, rfl, by simp⟩, fun out h => h, by simp; omega, by simp, by simp, by simp⟩ ?_
  rintro d e H4 ⟨Kb, l4, taken, cur, ob, rfl, hkp, hq, hpi, hf, hsz, hmw, hkmb, hks, hkob, hout, hpk, hcur, e1, e6, e7⟩
  simp [s30_0, e1, e6, e7]
  refine (best_t (fun s hs => by have := (pcs_mem hs).2; omega) hmw hkmb (WG_bd hrl.1) hq hpi hf hsz).mono ?_
  rintro v5 H5 ⟨hn5, hk5, hv5⟩
  have hstn : ∀ x : Pc, kStn (H5.push (.cells [.string (bs []), .int .i64 0, .int .i64 0] 112 true)) 3 (.pointer (some ⟨H5.next, 0, none⟩)) (.agg (pcC x).toArray) = some (H5.push (.cells (pcC x) 112 true)) := fun x => by
    have gl := get_last (H := H5) (b := .cells [.string (bs []), .int .i64 0, .int .i64 0] 112 true)
    rw [kStn_wr (v := pcC x) (n := 3) (o := 0) gl (by simp) rfl, put_last]
    rfl
  have hkl : ∀ k, Kb k → k < H4.next := fun k hk => (hq.kp k hk).1
  have hend : ∀ x : Pc, Kp H.next H (H5.push (.cells (pcC x) 112 true)) ∧ OutS (H5.push (.cells (pcC x) 112 true)) (e 8) taken ob := fun x => by
    refine ⟨⟨by have := hkp.1; simp; omega, fun k hk => ?_⟩, hout.get fun b hb => ?_⟩
    · rw [get_old (by have := hkp.1; omega), hk5 k (hks k hk)]; exact hkp.2 k hk
    · have := hkl b (hkob b hb).1
      rw [get_old (by omega), hk5 b (hkob b hb).1]
  have hobn : ∀ b, ob = some b → H.next ≤ b := fun b hb => (hkob b hb).2.1
  rcases hv5 with ⟨x, rfl, hpick⟩ | ⟨x, l5, rfl, hxw, hpick, hq5, hf5, hpi5, hsz5⟩
  · simp
    rw [hstn x]
    simp [tup]
    obtain ⟨h1, h2⟩ := hend x
    exact ⟨h1, taken, ob, h2, hobn, hpk _ (.stop (.inl hpick)), by omega⟩
  · have hxm : x.s ∈ pcs rs := by
      have := (hpi5.a x (Array.mem_push.2 (.inr rfl))).1
      exact List.mem_of_getElem? this
    have hxl := pcs_mem hxm
    obtain ⟨T, hT⟩ : ∃ T, T = H5.next := ⟨_, rfl⟩
    obtain ⟨H6, hH6⟩ : ∃ H6, H6 = H5.push (.cells (pcC x) 112 true) := ⟨_, rfl⟩
    have gT : H6.get T = .cells (pcC x) 112 true := by rw [hH6, hT]; exact get_last
    have hk6 : Kp H5.next H5 H6 := hH6 ▸ Kp.push (Nat.le_refl _)
    have c0 : (pcC x)[0]? = some (.string (ofL x.s)) := rfl
    simp
    rw [hstn x, ← hH6, ← hT]
    by_cases hlt : cur < x.s.length
    · have hlt' : (cur : Int) < x.s.length := by omega
      simp [addOff, gT, c0, ofL_size, hlt, hlt', tup]
      obtain ⟨h1, h2⟩ := hend x
      rw [← hH6] at h1 h2
      refine ⟨h1, taken, ob, h2, hobn, hpk _ (.stop (.inr ?_)), by omega⟩
      rw [hpick]; simp only; omega
    · have hlt' : ¬ (cur : Int) < x.s.length := by omega
      have w1 : IntKind.i64.wrap ((cur : Int) - x.s.length) = ((cur - x.s.length : Nat) : Int) := by rw [wi (by omega) (by omega)]; omega
      simp [addOff, gT, c0, ofL_size, hlt, hlt', e1, e6, w1]
      have hM6 : MW H6 mb (WG rs taken) := hmw.get (by rw [hk6.2 mb (by have := hkl mb hkmb; omega), hk5 mb hkmb])
      refine (take_t' hM6 x.s (by omega)).mono ?_
      rintro v7 H7 ⟨hn7, hk7, hM7⟩
      have hWn : (fun g => if hasG x.s g = true then 0 else WG rs taken g) = WG rs (taken ++ [x.s]) := by funext g; rw [WG_mono]
      rw [hWn] at hM7
      have hTm : T ≠ mb := by have := hkl mb hkmb; omega
      have gT7 : H7.get T = .cells (pcC x) 112 true := by rw [hk7 T (lt_cells gT) hTm]; exact gT
      have hq6 : Qp Kb H5 p H6 l5 := hq5.step hk6
      have hq7 : Qp Kb H7 p H7 l5 := hq6.re hn7 (fun k hk hk2 => hk7 k hk2 (by rintro rfl; exact hk hkmb)) (fun k hk => ⟨Nat.lt_of_lt_of_le (hq6.kp k hk).1 hn7, .inl hk⟩)
      have hout7 : OutS H7 (e 8) taken ob := hout.get fun b hb => by
        have h1 := hkl b (hkob b hb).1
        have h2 := hk6.1
        rw [hk7 b (by omega) (hkob b hb).2.2, hk6.2 b (by omega), hk5 b (hkob b hb).1]
      obtain ⟨v', H8, b', hrow, happ, hout8, hb1, hb2, hk8⟩ := hout7.app (by omega) x.s
      have hn8 : H7.next ≤ H8.next := by omega
      have hq8 : Qp (fun k => (Kb k ∧ ob ≠ some k) ∨ k = b') H8 p H8 l5 := hq7.re hn8 (fun k hk hk2 => hk8 k hk2 (fun e => hk (hkob k e).1)) (fun k hk => by
        rcases hk with ⟨h1, _⟩ | rfl
        · exact ⟨by have := (hq7.kp k h1).1; omega, .inl h1⟩
        · exact ⟨hb2, .inr hb1⟩)
      have hWle : ∀ g, WG rs (taken ++ [x.s]) g ≤ WG rs taken g := WG_le rs taken x.s
      have hpi8 : PI (WG rs (taken ++ [x.s])) (pcs rs) l5 := hpi5.taken hWle (worthS_taken rs taken x.s)
      have hmb7 := hM7.lt
      have hmbo : ob ≠ some mb := fun e => (hkob mb e).2.2 rfl
      simp [addOff, gT7, c0, kFill, evPs, isTup, cellsL, wr]
      rw [hrow]
      simp [happ]
      have htl : totalW (WG rs (taken ++ [x.s])) (pcs rs) < totalW (WG rs taken) (pcs rs) := by
        refine totalW_lt hWle (p := x.s) ?_ hxm
        rw [worthS_taken]
        have := (hpi5.a x (Array.mem_push.2 (.inr rfl))).2
        have h2 := pickF_mem (WG rs taken) (pcs rs) (0, [])
        rw [hpick] at h2
        rcases h2 with h2 | ⟨q, hq', h2⟩
        · simp only [Prod.mk.injEq] at h2; omega
        · simp only [Prod.mk.injEq] at h2
          rw [h2.2, ← h2.1]; exact hxw
      refine ⟨totalW (WG rs (taken ++ [x.s])) (pcs rs), htl, _, l5, taken ++ [x.s], cur - x.s.length, some b', rfl, ?_, hq8, hpi8, hf5, hsz5, hM7.get (hk8 mb hmb7 hmbo), .inl ⟨hkmb, hmbo⟩, fun k hk => .inl ⟨hks k hk, fun e => by have := (hkob k e).2.1; omega⟩, fun b hb => ?_, by simpa using hout8, fun out ho => hpk out ?_, by simp; omega, by simp, by simp [e6], by simp [e7]⟩
      · have h1 := hkp.1
        refine ⟨by have := hk6.1; omega, fun k hk => ?_⟩
        have hkm : k ≠ mb := by omega
        have h2 := hk6.1
        rw [hk8 k (by omega) (fun e => by have := (hkob k e).2.1; omega), hk7 k (by omega) hkm, hk6.2 k (by omega), hk5 k (hks k hk)]; exact hkp.2 k hk
      · simp only [Option.some.injEq] at hb
        subst hb
        exact ⟨.inr rfl, by have := hkp.1; have := hk6.1; omega, by omega⟩
      · refine .step hpick hxw (by omega) ?_
        have : ((cur : Int) - x.s.length) = ((cur - x.s.length : Nat) : Int) := by omega
        rw [this]; exact ho
end
end Go.Proofs.Ytlboioplemlneaa.K
/- Dictionaries of what comes again, by the document: walked. -/
set_option maxRecDepth 100000
set_option maxHeartbeats 4000000
set_option linter.unusedVariables false
set_option linter.unusedSimpArgs false
set_option linter.unusedSectionVars false
namespace Go.Proofs.Ytlboioplemlneaa.K
open Go Go.Proofs
theorem hasG_iff {s g : Bytes} : hasG s g = true ↔ ∃ i, i + 6 ≤ s.length ∧ winD s i 6 = g := by simp only [hasG, decide_eq_true_eq]; exact gramsL_mem
section
variable {H : Heap}
structure WhI (s g : Bytes) (HB : Heap) (d : Nat) (e : Fe) (H : Heap) (i : Nat) : Prop where
  hi : i ≤ s.length
  hd : d = s.length - i
  hH : H = HB
  e0 : e 0 = .string (ofL s)
  e1 : e 1 = .string (ofL g)
  e5 : e 5 = .int .i64 i
  no : ∀ j, j < i → winD s j 6 ≠ g
theorem within_t (s g : Bytes) (hg : g.length = 6) (hs : s.length ≤ 100000) : Wf S 84 [.string (ofL s), .string (ofL g)] H fun v H' => H' = H ∧ v = .bool (hasG s g) := by
  refine w84 rfl rfl _ _ ?_
  simp [s84]
  refine l84_0 S (fun d e H' => ∃ i : Nat, WhI s g H d e H' i) s.length ⟨0, by omega, by omega, rfl, by simp, by simp, by simp, fun j hj => by omega⟩ ?_
  rintro d e H1 ⟨i, hi, rfl, rfl, e0, e1, e5, hno⟩
  obtain ⟨j, hj⟩ : ∃ j, j = i + 6 := ⟨_, rfl⟩
  have w1 : IntKind.i64.wrap ((i : Int) + 6) = (j : Int) := by rw [wi (by omega) (by omega)]; omega
  have w2 : IntKind.i64.wrap ((i : Int) + 1) = ((i + 1 : Nat) : Int) := by rw [wi (by omega) (by omega)]; omega
  by_cases h3 : j ≤ s.length
  · have h3' : (j : Int) ≤ s.length := by omega
    have h4 : i ≤ j := by omega
    have h4' : (i : Int) ≤ j := by omega
    have hw : (s.take j).drop i = winD s i 6 := by rw [hj]; exact win_eq s i 6
    by_cases h5 : winD s i 6 = g
    · have : hasG s g = true := hasG_iff.2 ⟨i, by omega, h5⟩
      have hb : (winD s i 6 == g) = true := by simpa using h5
      simp [s84_0, e0, e1, e5, ofL_size, hg, w1, h3, h3', s_slice, h4, h4', hw, toList_ofL, hb, this]
    · have hb : (winD s i 6 == g) = false := by simpa using h5
      simp [s84_0, e0, e1, e5, ofL_size, hg, w1, h3, h3', s_slice, h4, h4', hw, toList_ofL, hb, w2]
      refine ⟨s.length - (i + 1), by omega, i + 1, by omega, rfl, rfl, by simp [e0], by simp [e1], by simp, fun q hq => ?_⟩
      by_cases e : q = i
      · rw [e]; exact h5
      · exact hno q (by omega)
  · have h3' : ¬ (j : Int) ≤ s.length := by omega
    have : hasG s g = false := by
      rw [Bool.eq_false_iff]
      intro h
      obtain ⟨q, hq, e⟩ := hasG_iff.1 h
      exact hno q (by omega) e
    simp [s84_0, e0, e1, e5, ofL_size, hg, w1, h3, h3', this]
/-- is a gram in one of these? -/
def anyG (l : List Bytes) (g : Bytes) : Bool := l.any fun t => hasG t g
theorem any_take {l : List Bytes} {i : Nat} {r g : Bytes} (h : l[i]? = some r) : anyG (l.take (i + 1)) g = (anyG (l.take i) g || hasG r g) := by
  unfold anyG
  rw [List.take_add_one, h, Option.toList_some, List.any_append]; simp
theorem one_t {a : Option Addr} {c : Nat} {l : List Bytes} {g : Bytes} (hl : Sv H a l) (hg : g.length = 6) (hn : l.length ≤ 100000) (hsz : ∀ r ∈ l, r.length ≤ 100000) :
    Wf S 85 [.slice a l.length c, .string (ofL g)] H fun v H' => H' = H ∧ v = .bool (anyG l g) := by
  refine w85 rfl rfl _ _ ?_
  simp [s85]
  refine l85_0 S (fun d e H' => ∃ i : Nat, i ≤ l.length ∧ d = l.length - i ∧ H' = H ∧ e 0 = .slice a l.length c ∧ e 1 = .string (ofL g) ∧ e 5 = .int .i64 i ∧ anyG (l.take i) g = false) l.length ⟨0, by omega, by omega, rfl, by simp, by simp, by simp, by simp [anyG]⟩ ?_
  rintro d e H1 ⟨i, hi, rfl, rfl, e0, e1, e5, hno⟩
  by_cases h3 : i < l.length
  · obtain ⟨b, o, cs, rw', rfl, hgb, hcs⟩ := hl (by omega)
    obtain ⟨r, hr⟩ : ∃ r, l[i]? = some r := ⟨_, List.getElem?_eq_getElem h3⟩
    have hcr := hcs i r hr
    have h3' : (i : Int) < l.length := by omega
    have w2 : IntKind.i64.wrap ((i : Int) + 1) = ((i + 1 : Nat) : Int) := by rw [wi (by omega) (by omega)]; omega
    simp [s85_0, e0, e1, e5, h3, h3', addOff, hgb, hcr]
    refine (within_t r g hg (hsz r (List.mem_of_getElem? hr))).mono ?_
    rintro v H2 ⟨rfl, rfl⟩
    cases hh : hasG r g with
    | true =>
      have : anyG l g = true := by unfold anyG; rw [List.any_eq_true]; exact ⟨r, List.mem_of_getElem? hr, hh⟩
      simp [this]
    | false =>
      simp [e5, w2]
      exact ⟨l.length - (i + 1), by omega, i + 1, by omega, rfl, by simp [e0], by simp [e1], by simp, by rw [any_take hr, hno, hh]; rfl⟩
  · obtain rfl : i = l.length := by omega
    rw [List.take_length] at hno
    simp [s85_0, e0, e5, hno]
theorem weight_t {a : Option Addr} {c : Nat} {l : List Bytes} {g : Bytes} (hl : Sv H a l) (hg : g.length = 6) (hn : l.length ≤ 100000) (hsz : ∀ r ∈ l, r.length ≤ 100000) :
    Wf S 86 [.slice a l.length c, .string (ofL g)] H fun v H' => H' = H ∧ v = .int .i64 (WG0 l g) := by
  refine w86 rfl rfl _ _ ?_
  simp [s86]
  refine l86_0 S (fun d e H' => ∃ i : Nat, i ≤ l.length ∧ d = l.length - i ∧ H' = H ∧ e 0 = .slice a l.length c ∧ e 1 = .string (ofL g) ∧ e 6 = .int .i64 i ∧ e 5 = .int .i64 (cntG (l.take i) g)) l.length ⟨0, by omega, by omega, rfl, by simp, by simp, by simp, by simp [cntG]⟩ ?_
  rintro d e H1 ⟨i, hi, rfl, rfl, e0, e1, e6, e5⟩
  by_cases h3 : i < l.length
  · obtain ⟨b, o, cs, rw', rfl, hgb, hcs⟩ := hl (by omega)
    obtain ⟨r, hr⟩ : ∃ r, l[i]? = some r := ⟨_, List.getElem?_eq_getElem h3⟩
    have hcr := hcs i r hr
    have h3' : (i : Int) < l.length := by omega
    have w2 : IntKind.i64.wrap ((i : Int) + 1) = ((i + 1 : Nat) : Int) := by rw [wi (by omega) (by omega)]; omega
    have hcn := cntG_next hr g
    have hcl := cntG_le (l.take i) g
    rw [List.length_take] at hcl
    simp [s86_0, e0, e1, e5, e6, h3, h3', addOff, hgb, hcr]
    refine (within_t r g hg (hsz r (List.mem_of_getElem? hr))).mono ?_
    rintro v H2 ⟨rfl, rfl⟩
    cases hh : hasG r g with
    | true =>
      rw [hh] at hcn
      have w1 : IntKind.i64.wrap ((cntG (l.take i) g : Int) + 1) = ((cntG (l.take (i + 1)) g : Nat) : Int) := by rw [hcn, wi (by omega) (by omega)]; simp
      simp [e5, e6, w1, w2]
      exact ⟨l.length - (i + 1), by omega, i + 1, by omega, rfl, by simp [e0], by simp [e1], by simp, by simp⟩
    | false =>
      rw [hh] at hcn
      simp [e5, e6, w2]
      exact ⟨l.length - (i + 1), by omega, i + 1, by omega, rfl, by simp [e0], by simp [e1], by simp, by simp [e5, hcn]⟩
  · obtain rfl : i = l.length := by omega
    rw [List.take_length] at e5
    have hcl := cntG_le l g
    by_cases h0 : cntG l g = 0
    · simp [s86_0, e0, e5, e6, h0, WG0]
    · have h0' : ¬ (cntG l g : Int) = 0 := by omega
      have w1 : IntKind.i64.wrap ((cntG l g : Int) - 1) = ((cntG l g - 1 : Nat) : Int) := by rw [wi (by omega) (by omega)]; omega
      simp [s86_0, e0, e5, e6, h0, h0', WG0, w1]
theorem first_t {s g : Bytes} {i : Nat} (h : i + 5 ≤ s.length) : hasG (s.take (i + 5)) g = decide (g ∈ gramsTo s i) := by
  rw [Bool.eq_iff_iff, hasG_iff, decide_eq_true_eq, gramsTo_mem, List.length_take]
  have hw : ∀ q, q + 6 ≤ i + 5 → winD (s.take (i + 5)) q 6 = winD s q 6 := fun q hq => by
    unfold winD; rw [List.drop_take, List.take_take, Nat.min_eq_left (by omega)]
  constructor
  · rintro ⟨q, hq, e⟩; exact ⟨q, by omega, by rw [← hw q (by omega)]; exact e⟩
  · rintro ⟨q, hq, e⟩; exact ⟨q, by omega, by rw [hw q (by omega)]; exact e⟩
structure RwI (v0 v2 : Value) (s : Bytes) (W : Bytes → Nat) (HB : Heap) (d : Nat) (e : Fe) (H : Heap) (i : Nat) : Prop where
  hi : i ≤ s.length - 5
  hd : d = s.length - 5 - i
  hH : H = HB
  e0 : e 0 = v0
  e1 : e 1 = .string (ofL s)
  e2 : e 2 = v2
  e7 : e 7 = .int .i64 (sW W (gramsTo s i) : Nat)
  e8 : e 8 = .int .i64 i
theorem rWorth_t {a a2 : Option Addr} {c c2 : Nat} {rs tk : List Bytes} {s : Bytes} (hl : Sv H a rs) (ht : Sv H a2 tk) (hn : rs.length ≤ 64) (hsz : ∀ r ∈ rs, r.length ≤ 100000) (hn2 : tk.length ≤ 100000) (hsz2 : ∀ r ∈ tk, r.length ≤ 100000) (hs : s.length ≤ 100000) :
    Wf S 35 [.slice a rs.length c, .string (ofL s), .slice a2 tk.length c2] H fun v H' => H' = H ∧ v = .int .i64 (worthS (WG rs tk) s) := by
  refine w35 rfl rfl _ _ _ ?_
  simp [s35]
  refine l35_0 S (fun d e H' => ∃ i : Nat, RwI (.slice a rs.length c) (.slice a2 tk.length c2) s (WG rs tk) H d e H' i) (s.length - 5) ⟨0, by omega, by omega, rfl, by simp, by simp, by simp, by simp [sW, gramsTo], by simp⟩ ?_
  rintro d e H1 ⟨i, hi, rfl, rfl, e0, e1, e2, e7, e8⟩
  obtain ⟨j, hj⟩ : ∃ j, j = i + 6 := ⟨_, rfl⟩
  have w1 : IntKind.i64.wrap ((i : Int) + 6) = (j : Int) := by rw [wi (by omega) (by omega)]; omega
  have w2 : IntKind.i64.wrap ((i : Int) + 1) = ((i + 1 : Nat) : Int) := by rw [wi (by omega) (by omega)]; omega
  by_cases h3 : j ≤ s.length
  · obtain ⟨q, hq⟩ : ∃ q, q = i + 5 := ⟨_, rfl⟩
    have w3 : IntKind.i64.wrap ((i : Int) + 5) = (q : Int) := by rw [wi (by omega) (by omega)]; omega
    have h3' : (j : Int) ≤ s.length := by omega
    have h4 : i ≤ j := by omega
    have h4' : (i : Int) ≤ j := by omega
    have h5 : q ≤ s.length := by omega
    have h5' : (q : Int) ≤ s.length := by omega
    have hw : (s.take j).drop i = winD s i 6 := by rw [hj]; exact win_eq s i 6
    have hgl : (winD s i 6).length = 6 := winD_len (by omega)
    have hf := first_t (s := s) (g := winD s i 6) (i := i) (by omega)
    rw [← hq] at hf
    simp [s35_0, e0, e1, e2, e7, e8, ofL_size, w1, h3, h3', s_slice, h4, h4', hw, w3, s_upto, h5, h5']
    refine (within_t (s.take q) (winD s i 6) hgl (by rw [List.length_take]; omega)).mono ?_
    rintro v H2 ⟨rfl, rfl⟩
    rw [hf]
    by_cases h6 : winD s i 6 ∈ gramsTo s i
    · have hgt : gramsTo s (i + 1) = gramsTo s i := by simp only [gramsTo]; rw [if_pos h6]
      simp [h6, e8, w2]
      exact ⟨s.length - 5 - (i + 1), by omega, i + 1, by omega, rfl, rfl, by simp [e0], by simp [e1], by simp [e2], by simp [e7, hgt], by simp⟩
    · have hgt : gramsTo s (i + 1) = gramsTo s i ++ [winD s i 6] := by simp only [gramsTo]; rw [if_neg h6]
      have hst : sW (WG rs tk) (gramsTo s (i + 1)) = sW (WG rs tk) (gramsTo s i) + WG rs tk (winD s i 6) := by rw [hgt]; simp [sW]
      simp [h6]
      refine (one_t ht hgl hn2 hsz2).mono ?_
      rintro v H3 ⟨rfl, rfl⟩
      cases ho : anyG tk (winD s i 6) with
      | true =>
        have hz : WG rs tk (winD s i 6) = 0 := by unfold WG; unfold anyG at ho; rw [ho]; rfl
        rw [hz, Nat.add_zero] at hst
        simp [e8, w2]
        exact ⟨s.length - 5 - (i + 1), by omega, i + 1, by omega, rfl, rfl, by simp [e0], by simp [e1], by simp [e2], by simp [e7, hst], by simp⟩
      | false =>
        have hz : WG rs tk (winD s i 6) = WG0 rs (winD s i 6) := by unfold WG; unfold anyG at ho; rw [ho]; rfl
        have hb := sum_bd (WG_bd (taken := tk) hn) (gramsTo s i)
        have hb2 := WG_bd (taken := tk) hn (winD s i 6)
        have hb3 := gramsTo_len s i
        have hmul : (gramsTo s i).length * 1000 ≤ 100000 * 1000 := Nat.mul_le_mul_right _ (by omega)
        rw [hz] at hst hb2
        simp [e0]
        refine (weight_t hl hgl (by omega) hsz).mono ?_
        rintro v H4 ⟨rfl, rfl⟩
        have w5 : IntKind.i64.wrap ((sW (WG rs tk) (gramsTo s i) : Nat) + (WG0 rs (winD s i 6) : Nat) : Int) = ((sW (WG rs tk) (gramsTo s (i + 1)) : Nat) : Int) := by rw [hst, wi (by omega) (by omega)]; omega
        simp [e7, e8, w2, w5]
        exact ⟨s.length - 5 - (i + 1), by omega, i + 1, by omega, rfl, rfl, by simp [e0], by simp [e1], by simp [e2], by simp, by simp⟩
  · have h3' : ¬ (j : Int) ≤ s.length := by omega
    obtain rfl : i = s.length - 5 := by omega
    simp [s35_0, e1, e7, e8, ofL_size, w1, h3, h3']
    rfl
structure RbI (H0 : Heap) (L : List Bytes) (v0 : Value) (d : Nat) (e : Fe) (H : Heap) (i : Nat) : Prop where
  h2 : d = L.length - i
  hi : i ≤ L.length
  hi2 : i ≤ 64
  kp : Kp H0.next H0 H
  acc : Acc 9 1 H0.next H.next H (e 3) i (strs ((L.take i).map (·.take 512)))
  e0 : e 0 = v0
  e4 : e 4 = .int .i64 i
theorem rBrought_t {v : Value} {l : List Bytes} (hl : SIs H v l) (hn : l.length ≤ 100000) :
    Wf S 36 [v] H fun v H' => Kp H.next H H' ∧ Acc 9 1 H.next H'.next H' v (brL l).length (strs (brL l)) := by
  refine w36 rfl rfl _ ?_
  obtain ⟨a, c, rfl, hsv⟩ := hl.sv
  simp [s36]
  refine l36_0 S (fun d e H' => ∃ i, RbI H l (.slice a l.length c) d e H' i) l.length ⟨0, by omega, by omega, by omega, Kp.refl _ _, by simpa [strs] using Acc.nil, by simp, by simp⟩ ?_
  rintro d e H1 ⟨i, rfl, hi, hi2, hk, hA, e0, e4⟩
  have fin : i = l.length ∨ i = 64 → Acc 9 1 H.next H1.next H1 (e 3) (brL l).length (strs (brL l)) := fun h => by
    have h1 : l.take i = l.take 64 := by
      rcases h with h | h
      · rw [h, List.take_length, List.take_of_length_le (by omega)]
      · rw [h]
    have h2 : (brL l).length = i := by unfold brL; rw [List.length_map, List.length_take]; omega
    have h3 : brL l = (l.take i).map (·.take 512) := by unfold brL; rw [h1]
    rw [h2, h3]; exact hA
  by_cases h3 : i < l.length
  · have h3' : (i : Int) < l.length := by omega
    by_cases h64 : i < 64
    · have h64' : (i : Int) < 64 := by omega
      obtain ⟨b, o, cs, rw', rfl, hg, hcs⟩ := (hsv.kp hk) (by omega)
      obtain ⟨r, hr⟩ : ∃ r, l[i]? = some r := ⟨_, List.getElem?_eq_getElem h3⟩
      have hcr := hcs i r hr
      have w2 : IntKind.i64.wrap ((i : Int) + 1) = ((i + 1 : Nat) : Int) := by rw [wi (by omega) (by omega)]; omega
      obtain ⟨v', H2, ha1, ha2, ha3, ha4⟩ := hA.app (new := [.string (ofL (r.take 512))]) (bytes := 16) hk.1 (Nat.le_refl _) rfl (by unfold roomMax; omega)
      obtain ⟨HP, hHP⟩ : ∃ HP, HP = H1.push (.cells [.string (ofL (r.take 512))] 9 true) := ⟨_, rfl⟩
      have hrow : kRow HP 9 1 1 (some ⟨H1.next, 0, none⟩) = some [.string (ofL (r.take 512))] := by
        rw [hHP]; simp [kRow, rd]
      rw [← hHP] at ha1
      have hnx : l.take (i + 1) = l.take i ++ [r] := by rw [List.take_add_one, hr, Option.toList_some]
      have next : ∀ e' : Fe, e' 3 = v' → e' 0 = e 0 → e' 4 = .int .i64 ((i + 1 : Nat) : Int) → RbI H l (.slice (some ⟨b, o, none⟩) l.length c) (l.length - (i + 1)) e' H2 (i + 1) := fun e' q3 q0 q4 =>
        ⟨by omega, by omega, by omega, ⟨by have := hk.1; omega, fun k hk' => by rw [ha4 k (by have := hk.1; omega) (.inl (by omega))]; exact hk.2 k hk'⟩, by rw [hnx, List.map_append, strs_app, q3]; simpa [strs, encS] using ha2, by rw [q0, e0], q4⟩
      by_cases h5 : 512 < r.length
      · have h5' : (512 : Int) < r.length := by omega
        have h6' : (512 : Int) ≤ r.length := by omega
        have h6 : 512 ≤ r.length := by omega
        simp [s36_0, e0, e4, h3, h3', h64, h64', addOff, hg, hcr, ofL_size, h5, h5', s_upto, h6, h6', kFill, evPs, isTup, cellsL, wr]
        rw [← hHP, hrow]
        simp [ha1, w2, e4]
        exact ⟨l.length - (i + 1), by omega, i + 1, next _ (by simp) (by simp) (by simp)⟩
      · have h5' : ¬ (512 : Int) < r.length := by omega
        have hrt : r.take 512 = r := List.take_of_length_le (by omega)
        rw [hrt] at hHP hrow ha1
        simp [s36_0, e0, e4, h3, h3', h64, h64', addOff, hg, hcr, ofL_size, h5, h5', kFill, evPs, isTup, cellsL, wr]
        rw [← hHP, hrow]
        simp [ha1, w2, e4]
        exact ⟨l.length - (i + 1), by omega, i + 1, next _ (by simp) (by simp) (by simp)⟩
    · have h64' : ¬ (i : Int) < 64 := by omega
      simp [s36_0, e0, e4, h3, h3', h64, h64']
      exact ⟨hk, fin (.inr (by omega))⟩
  · have h3' : ¬ (i : Int) < l.length := by omega
    simp [s36_0, e0, e4, h3, h3']
    exact ⟨hk, fin (.inl (by omega))⟩
end
end Go.Proofs.Ytlboioplemlneaa.K
