/- A region whose order is open, at its end: each order that Go allows comes to what the one that K runs comes to. -/
import Derived.Test.YtlboioplemlneaaKDraw2
set_option linter.unusedVariables false
set_option linter.unusedSimpArgs false
namespace Go.Proofs.Ytlboioplemlneaa.K
open Go Go.RowKit

section
variable {S : Sys} {call : CallO} {ks : List KStep} {ops : List Oper} {ms : List Nat} {pl : List (Nat × List Nat)} {E : Nat → Env} {Hh : Nat → Heap}

/-- what the run told -/
structure Ran (S : Sys) (call : CallO) (ks : List KStep) (pl : List (Nat × List Nat)) (E : Nat → Env) (Hh : Nat → Heap) : Prop where
  at_ : ∀ (p i : Nat) cs, pl[p]? = some (i, cs) → kStep S call (stepAt ks i) (E p) (Hh p) = some (E (p + 1), Hh (p + 1)) ∧
      ∀ j ∈ cs, ∃ c, (ks[j]?).bind chkOf = some c ∧ kStep S call c (E (p + 1)) (Hh (p + 1)) = some (E (p + 1), Hh (p + 1))
  isOp : ∀ (i : Nat), i < ks.length → ∃ d g k, stepAt ks i = .op d g k

theorem exec_kop {k : KOp} (h : cls k = .read) (e : Env) (H : Heap) : kExec S call k e H = kop k e H := by
  cases k <;> first
    | rfl
    | (cases h; done)

theorem setO_get (e : Env) (d : Option Nat) (v : Value) (t : Nat) : (setO e d v).get t = if d = some t then v else e.get t := by
  cases d with
  | none => simp [setO]
  | some d =>
    simp only [setO, Env.get_set]
    by_cases h : t = d
    · subst h; simp
    · rw [if_neg h, if_neg (fun e => h (by cases e; rfl))]

/-- the step at its own place -/
theorem step_val (hp : Plan ks ops ms pl) (hr : Ran S call ks pl E Hh) {j : Nat} (hj : j < ks.length) :
    E (posn pl j + 1) = setO (E (posn pl j)) (stepAt ks j).dst (valOf S call ks pl E Hh j) ∧ (isEff ks j = false → Hh (posn pl j + 1) = Hh (posn pl j)) := by
  obtain ⟨_, cs, hcs⟩ := pos_at hp hj
  obtain ⟨d, g, k, hst⟩ := hr.isOp j hj
  have h1 := (hr.at_ _ _ _ hcs).1
  rw [hst] at h1
  simp only [kStep] at h1
  have hv : valOf S call ks pl E Hh j = (if wants (E (posn pl j)) g = true then ((kExec S call k (E (posn pl j)) (Hh (posn pl j))).map (·.1)).getD undef else undef) := by unfold valOf; rw [hst]; rfl
  have hE : isEff ks j = (cls k == .eff) := by unfold isEff; rw [hst]; rfl
  have hd : (stepAt ks j).dst = d := by rw [hst]; rfl
  rw [hv, hE, hd]
  split at h1
  · rename_i hw
    rw [if_pos hw]
    simp only [Option.map_eq_some_iff, Prod.mk.injEq] at h1
    obtain ⟨⟨v, H'⟩, hx, h2, h3⟩ := h1
    refine ⟨by rw [← h2, hx]; rfl, fun hne => ?_⟩
    have hc : cls k ≠ .eff := by simpa using hne
    rw [← h3]
    cases hcl : cls k with
    | pure => exact (pure_any hcl hx).1
    | read => rw [exec_kop hcl] at hx; exact read_same hcl hx
    | eff => exact absurd hcl hc
  · rename_i hw
    rw [if_neg hw]
    simp only [Option.some.injEq, Prod.mk.injEq] at h1
    exact ⟨h1.1.symm, fun _ => h1.2.symm⟩

def Tp (ks : List KStep) (pl : List (Nat × List Nat)) (p i : Nat) : Bool := decide (i < ks.length) && decide (posn pl i < p)

theorem Tp_closed (hp : Plan ks ops ms pl) (p : Nat) : Closed ops (Tp ks pl p) := by
  intro j o hj ho e he hb
  simp only [Tp, Bool.and_eq_true, decide_eq_true_eq] at hj ⊢
  obtain ⟨h1, h2⟩ := hp.edge j o hj.1 ho e he hb
  exact ⟨by omega, by omega⟩
theorem Tp_ready (hp : Plan ks ops ms pl) {j : Nat} (hj : j < ks.length) : Ready ops (Tp ks pl (posn pl j)) j := by
  intro o ho e he hb
  simp only [Tp, Bool.and_eq_true, decide_eq_true_eq]
  obtain ⟨h1, h2⟩ := hp.edge j o hj ho e he hb
  exact ⟨by omega, h2⟩
theorem bef_pos (hp : Plan ks ops ms pl) {i j : Nat} (hj : j < ks.length) (h : bef ms i j = true) : posn pl i < posn pl j := by
  have := bef_ready hp (Tp_closed hp _) j hj (Tp_ready hp hj) i h
  simp only [Tp, Bool.and_eq_true, decide_eq_true_eq] at this
  exact this.2

/-- the order that was run, at each of its places -/
theorem canon (hp : Plan ks ops ms pl) (hr : Ran S call ks pl E Hh) : ∀ p, p ≤ ks.length → (∀ t, (E p).get t = WT S call ks pl E Hh (Tp ks pl p) t) ∧ Hh p = HT ks pl Hh (Tp ks pl p)
  | 0, _ => by
    have h0 : ∀ q : Nat → Bool, (ordr pl).filter (fun i => Tp ks pl 0 i && q i) = [] := fun q => by
      rw [List.filter_eq_nil_iff]; intro i _; simp [Tp]
    exact ⟨fun t => by unfold WT; rw [h0]; rfl, by unfold HT; rw [h0]; rfl⟩
  | p + 1, hle => by
    obtain ⟨ih1, ih2⟩ := canon hp hr p (by omega)
    have hlen : pl.length = ks.length := by have := hp.plen; simpa [ordr] using this
    obtain ⟨⟨j, cs⟩, hj⟩ : ∃ x, pl[p]? = some x := ⟨pl[p]'(by omega), List.getElem?_eq_getElem _⟩
    have hpos := pos_of hp hj
    have hjn : j < ks.length := hp.low j (List.mem_map.2 ⟨(j, cs), List.mem_of_getElem? hj, rfl⟩)
    have hT : ∀ i, Tp ks pl (p + 1) i = (Tp ks pl p i || i == j) := by
      intro i
      by_cases hij : i = j
      · subst hij; simp [Tp, hjn, hpos]
      · rw [beq_false_of_ne hij, Bool.or_false]
        unfold Tp
        by_cases hi : i < ks.length
        · have hne : posn pl i ≠ p := fun e => hij (pos_inj hp hi hjn (by rw [e, hpos]))
          have : (posn pl i < p + 1) = (posn pl i < p) := propext ⟨fun h => by omega, fun h => by omega⟩
          simp only [this]
        · simp [hi]
    obtain ⟨s1, s2⟩ := step_val hp hr hjn
    rw [hpos] at s1 s2
    refine ⟨fun t => ?_, ?_⟩
    · rw [WT_ext hp hjn hT (fun i d hi hTi _ _ => by
        simp only [Tp, Bool.and_eq_true, decide_eq_true_eq] at hTi
        rw [hpos]; exact hTi.2) t, s1, setO_get, ih1 t]
    · rw [HT_ext hp hjn hT (fun i hi hTi _ _ => by
        simp only [Tp, Bool.and_eq_true, decide_eq_true_eq] at hTi
        rw [hpos]; exact hTi.2), hpos]
      split
      · rfl
      · rename_i he; rw [s2 (by simpa using he), ih2]

theorem WT_same {T T' : Nat → Bool} (t : Nat) (h : ∀ i ∈ ordr pl, wr1 ks t i = true → T i = T' i) : WT S call ks pl E Hh T t = WT S call ks pl E Hh T' t := by
  unfold WT
  rw [show (ordr pl).filter (fun i => T i && wr1 ks t i) = (ordr pl).filter fun i => T' i && wr1 ks t i from List.filter_congr fun i hi => by
    cases hw : wr1 ks t i with
    | false => simp
    | true => simp [h i hi hw]]
theorem HT_same {T T' : Nat → Bool} (h : ∀ i ∈ ordr pl, isEff ks i = true → T i = T' i) : HT ks pl Hh T = HT ks pl Hh T' := by
  unfold HT
  rw [show (ordr pl).filter (fun i => T i && isEff ks i) = (ordr pl).filter fun i => T' i && isEff ks i from List.filter_congr fun i hi => by
    cases hw : isEff ks i with
    | false => simp
    | true => simp [h i hi hw]]

theorem last_max (q : Nat → Bool) : ∀ (π : List Nat) (x : Nat), π.Nodup → (π.filter q).getLast? = some x → ∀ i ∈ π, q i = true → π.idxOf i ≤ π.idxOf x
  | [], _, _, _, i, hi, _ => by simp at hi
  | a :: π, x, hn, hl, i, hi, hq => by
    obtain ⟨hna, hn'⟩ := List.nodup_cons.1 hn
    have hxm : x ∈ (a :: π).filter q := List.mem_of_getLast? hl
    by_cases hia : i = a
    · subst hia; simp
    · have hi' : i ∈ π := by rcases List.mem_cons.1 hi with h | h; exact absurd h hia; exact h
      have hne : π.filter q ≠ [] := List.ne_nil_of_mem (List.mem_filter.2 ⟨hi', hq⟩)
      have hl' : (π.filter q).getLast? = some x := by
        rw [List.filter_cons] at hl
        split at hl
        · rw [List.getLast?_cons] at hl
          cases hg : (π.filter q).getLast? with
          | none => exact absurd (List.getLast?_eq_none_iff.1 hg) hne
          | some y => rw [hg] at hl; simpa using hl
        · exact hl
      have hx' : x ∈ π := (List.mem_filter.1 (List.mem_of_getLast? hl')).1
      have hxa : x ≠ a := fun e => hna (e ▸ hx')
      have := last_max q π x hn' hl' i hi' hq
      have h1 : (a == i) = false := beq_false_of_ne (fun e => hia e.symm)
      have h2 : (a == x) = false := beq_false_of_ne (fun e => hxa e.symm)
      simp only [List.idxOf_cons, h1, h2, cond_false]
      omega

/-- nothing that a read names is written between it and its last look -/
theorem kept (hp : Plan ks ops ms pl) (hr : Ran S call ks pl E Hh) {j x : Nat} (hj : j < ks.length) (hx : x < ks.length)
    (hk : ∀ r d, r < ks.length → posn pl j < r → r ≤ posn pl x → (stepAt ks ((ordr pl).getD r 0)).dst = some d → d ∉ (stepAt ks j).names) {t : Nat} (ht : t ∈ (stepAt ks j).names) :
    ∀ q, posn pl j + 1 ≤ q → q ≤ posn pl x + 1 → (E q).get t = (E (posn pl j + 1)).get t := by
  intro q
  induction q with
  | zero => intro h; omega
  | succ q ih =>
    intro h1 h2
    by_cases hq : q = posn pl j
    · rw [hq]
    · rw [← ih (by omega) (by omega)]
      have hlen : pl.length = ks.length := by have := hp.plen; simpa [ordr] using this
      have hqn : q < pl.length := by have := (pos_at hp hx).1; omega
      obtain ⟨⟨i, cs⟩, hi⟩ : ∃ y, pl[q]? = some y := ⟨pl[q], List.getElem?_eq_getElem hqn⟩
      have hpos := pos_of hp hi
      have hin : i < ks.length := hp.low i (List.mem_map.2 ⟨(i, cs), List.mem_of_getElem? hi, rfl⟩)
      have s1 := (step_val hp hr hin).1
      rw [hpos] at s1
      rw [s1, setO_get, if_neg]
      intro hd
      have hg : (ordr pl).getD q 0 = i := by simp [ordr, List.getD, hi]
      exact hk q t (by omega) (by omega) (by omega) (by rw [hg]; exact hd) ht

theorem step_any (hp : Plan ks ops ms pl) (hr : Ran S call ks pl E Hh) {T T' : Nat → Bool} (hc : Closed ops T) {j : Nat} (hj : j < ks.length) (hTj : T j = false) (hrd : Ready ops T j) (hT : ∀ i, T' i = (T i || i == j))
    {e : Env} {H : Heap} (he : ∀ t, e.get t = WT S call ks pl E Hh T t) (hH : H = HT ks pl Hh T) :
    ∃ e' H', kStep S call (stepAt ks j) e H = some (e', H') ∧ (∀ t, e'.get t = WT S call ks pl E Hh T' t) ∧ H' = HT ks pl Hh T' := by
  have hbT : ∀ i, bef ms i j = true → T i = true := bef_ready hp hc j hj hrd
  have hbN : ∀ i, i < ks.length → bef ms j i = true → T i = false := by
    intro i hi hb
    cases hTi : T i with
    | false => rfl
    | true =>
      have := bef_ready hp hc i hi (fun o ho e he hb => hc i o hTi ho e he hb) j hb
      rw [hTj] at this; cases this
  have hcmp : ∀ i, i < ks.length → (bef ms i j = true ∨ bef ms j i = true) → T i = Tp ks pl (posn pl j) i := by
    intro i hi h
    rcases h with h | h
    · rw [hbT i h]
      have := bef_pos hp hj h
      simp [Tp, hi, this]
    · rw [hbN i hi h]
      have := bef_pos hp hi h
      simp [Tp, hi]; omega
  have hself : T j = Tp ks pl (posn pl j) j := by rw [hTj]; simp [Tp]
  obtain ⟨cE, cH⟩ := canon hp hr (posn pl j) (Nat.le_of_lt (pos_at hp hj).1)
  have hag : ∀ t ∈ (stepAt ks j).names, e.get t = (E (posn pl j)).get t := by
    intro t ht
    rw [he t, cE t]
    refine WT_same t fun i hi hw => ?_
    simp only [wr1, beq_iff_eq] at hw
    by_cases hij : i = j
    · subst hij; exact hself
    · exact hcmp i (hp.low i hi) (hp.slots i j t (hp.low i hi) hj hij hw ht)
  have hextW : ∀ t, WT S call ks pl E Hh T' t = if (stepAt ks j).dst = some t then valOf S call ks pl E Hh j else WT S call ks pl E Hh T t := WT_ext hp hj hT (fun i d hi hTi hd hdi => by
    have hij : i ≠ j := fun e => by rw [e, hTj] at hTi; cases hTi
    rcases hp.slots i j d hi hj hij hdi (by simp [KStep.names, hd]) with h | h
    · exact bef_pos hp hj h
    · rw [hbN i hi h] at hTi; cases hTi)
  have hextH : HT ks pl Hh T' = if isEff ks j = true then Hh (posn pl j + 1) else HT ks pl Hh T := HT_ext hp hj hT (fun i hi hTi hei hej => by
    have hij : i ≠ j := fun e => by rw [e, hTj] at hTi; cases hTi
    rcases hp.effs i j hi hj hij hei hej with h | h
    · exact bef_pos hp hj h
    · rw [hbN i hi h] at hTi; cases hTi)
  have hW1 : ∀ t, (stepAt ks j).dst = some t → WT S call ks pl E Hh T' t = valOf S call ks pl E Hh j := fun t ht => by rw [hextW t, if_pos ht]
  have hW2 : ∀ t, (stepAt ks j).dst ≠ some t → WT S call ks pl E Hh T' t = WT S call ks pl E Hh T t := fun t ht => by rw [hextW t, if_neg ht]
  clear hextW
  obtain ⟨d, g, k, hst⟩ := hr.isOp j hj
  obtain ⟨_, cs, hcs⟩ := pos_at hp hj
  have hstep := (hr.at_ _ _ _ hcs).1
  have hval := step_val hp hr hj
  rw [hst] at hag hstep hval hW1 hW2 ⊢
  simp only [KStep.dst] at hval hW1 hW2
  have hev : ∀ x ∈ k.opds, e.ev x = (E (posn pl j)).ev x := by
    intro x hx
    cases x with
    | c v => rfl
    | t n =>
      refine hag n ?_
      simp only [KStep.names, KStep.reads, KStep.k, List.mem_append, List.mem_filterMap]
      exact .inr (.inl ⟨.t n, hx, rfl⟩)
  have hw : wants e g = wants (E (posn pl j)) g := by
    cases g with
    | none => rfl
    | some sw =>
      obtain ⟨sl, w⟩ := sw
      simp only [wants]
      rw [hag sl (by simp [KStep.names, KStep.reads, KStep.g, guardL])]
  have fin : ∀ (v : Value) (H' : Heap), v = valOf S call ks pl E Hh j → H' = HT ks pl Hh T' → (∀ t, (setO e d v).get t = WT S call ks pl E Hh T' t) ∧ H' = HT ks pl Hh T' := by
    intro v H' hv hH'
    refine ⟨fun t => ?_, hH'⟩
    rw [setO_get]
    by_cases hd : d = some t
    · rw [if_pos hd, hW1 t hd, hv]
    · rw [if_neg hd, hW2 t hd, he t]
  have hvw : valOf S call ks pl E Hh j = if wants (E (posn pl j)) g then ((kExec S call k (E (posn pl j)) (Hh (posn pl j))).map (·.1)).getD undef else undef := by
    unfold valOf; rw [hst]; rfl
  simp only [kStep] at hstep ⊢
  rw [← hw] at hstep hvw
  by_cases hwe : wants e g = true
  · rw [if_pos hwe] at hstep hvw
    simp only [Option.map_eq_some_iff, Prod.mk.injEq] at hstep
    obtain ⟨⟨v, H1⟩, hx, hx1, hx2⟩ := hstep
    have hvj : v = valOf S call ks pl E Hh j := by rw [hvw, hx]; rfl
    have hcong := exec_congr S call (k := k) (e := e) (e2 := E (posn pl j)) (h := hev)
    have done : ∀ H', kExec S call k e H = some (v, H') → H' = HT ks pl Hh T' →
        ∃ e' H', (if wants e g then Option.map (fun p => (setO e d p.1, p.2)) (kExec S call k e H) else some (setO e d undef, H)) = some (e', H') ∧ (∀ t, e'.get t = WT S call ks pl E Hh T' t) ∧ H' = HT ks pl Hh T' := by
      intro H' hx' hH'
      obtain ⟨f1, f2⟩ := fin v H' hvj hH'
      exact ⟨setO e d v, H', by rw [if_pos hwe, hx']; rfl, f1, f2⟩
    have hisE : isEff ks j = decide (cls k = .eff) := by unfold isEff; rw [hst]; rfl
    cases hcl : cls k with
    | pure =>
      have hne : cls k ≠ .eff := by rw [hcl]; simp
      have hany := (pure_any hcl hx).2 H
      refine done H (by rw [hcong H]; exact hany) ?_
      have hie : isEff ks j = false := by rw [hisE, hcl]; simp
      rw [hextH, if_neg (by rw [hie]; simp)]; exact hH
    | eff =>
      have hie : isEff ks j = true := by rw [hisE, hcl]; simp
      have hHp : H = Hh (posn pl j) := by
        rw [hH, cH]
        refine HT_same fun i hi hei => ?_
        by_cases hij : i = j
        · subst hij; exact hself
        · exact hcmp i (hp.low i hi) (hp.effs i j (hp.low i hi) hj hij hei hie)
      refine done H1 (by rw [hcong H, hHp]; exact hx) ?_
      rw [hextH, if_pos hie]; exact hx2
    | read =>
      have hne : cls k = .read := hcl
      have hclj : cls (stepAt ks j).k = .read := by rw [hst]; exact hcl
      have hie : isEff ks j = false := by rw [hisE, hcl]; simp
      have hH' : H = HT ks pl Hh T' := by rw [hextH, if_neg (by rw [hie]; simp)]; exact hH
      rw [exec_kop hne] at hx
      have hsame := read_same hcl hx
      -- the heap at which it is read now
      have onTime : (∀ i ∈ ordr pl, isEff ks i = true → T i = Tp ks pl (posn pl j) i) → kExec S call k e H = some (v, H) := by
        intro hall
        have hHp : H = Hh (posn pl j) := by rw [hH, cH]; exact HT_same hall
        rw [hcong H, exec_kop hne, hHp]
        rw [hsame] at hx; exact hx
      cases hla : ((ordr pl).filter fun i => T i && isEff ks i).getLast? with
      | none =>
        refine done H (onTime fun i hi hei => ?_) hH'
        have hnil : (ordr pl).filter (fun i => T i && isEff ks i) = [] := List.getLast?_eq_none_iff.1 hla
        have hTi : T i = false := by
          cases hq : T i with
          | false => rfl
          | true => have := List.filter_eq_nil_iff.1 hnil i hi; simp [hq, hei] at this
        rw [hTi]
        symm
        simp only [Tp, Bool.and_eq_false_iff, decide_eq_false_iff_not]
        by_cases hlt : posn pl i < posn pl j
        · have := hbT i (hp.early j i hj (hp.low i hi) hclj hei hlt)
          rw [hTi] at this; cases this
        · exact .inr hlt
      | some x =>
        have hxm := List.mem_filter.1 (List.mem_of_getLast? hla)
        simp only [Bool.and_eq_true] at hxm
        obtain ⟨hxo, hTx, hex⟩ := hxm
        have hxn := hp.low x hxo
        have hmax := last_max _ _ x hp.nodup hla
        by_cases hlt : posn pl x < posn pl j
        · refine done H (onTime fun i hi hei => ?_) hH'
          cases hTi : T i with
          | true =>
            have := hmax i hi (by simp [hTi, hei])
            have h2 : posn pl i < posn pl j := Nat.lt_of_le_of_lt this hlt
            simp [Tp, hp.low i hi, h2]
          | false =>
            symm
            simp only [Tp, Bool.and_eq_false_iff, decide_eq_false_iff_not]
            by_cases hlt2 : posn pl i < posn pl j
            · have := hbT i (hp.early j i hj (hp.low i hi) hclj hei hlt2)
              rw [hTi] at this; cases this
            · exact .inr hlt2
        · have hbf : bef ms j x = false := by
            cases hb : bef ms j x with
            | false => rfl
            | true => rw [hbN x hxn hb] at hTx; cases hTx
          obtain ⟨hmem, ⟨dd, hdd, hdr⟩, hkeep⟩ := hp.late j x hj hxn hclj hex hlt hbf
          rw [hst] at hdd
          simp only [KStep.dst] at hdd
          subst hdd
          obtain ⟨_, csx, hcsx⟩ := pos_at hp hxn
          have hmem' : j ∈ csx := by simpa [List.getD, hcsx] using hmem
          obtain ⟨c, hcc, hck⟩ := (hr.at_ _ _ _ hcsx).2 j hmem'
          have hksj : ks[j]? = some (.op (some dd) g k) := by
            have h1 : ks[j]? = some ks[j] := List.getElem?_eq_getElem hj
            have h2 : stepAt ks j = ks[j] := by simp [stepAt, List.getD, h1]
            rw [h1, ← h2, hst]
          rw [hksj] at hcc
          simp only [Option.bind_some, chkOf, Option.some.injEq] at hcc
          subst hcc
          have hne2 : posn pl x ≠ posn pl j := fun e => by
            have := pos_inj hp hxn hj e
            subst this
            rw [hTj] at hTx; cases hTx
          have hkpt : ∀ t ∈ (stepAt ks j).names, (E (posn pl x + 1)).get t = (E (posn pl j + 1)).get t := fun t ht => kept hp hr hj hxn hkeep ht _ (by omega) (Nat.le_refl _)
          have hrds : ∀ t ∈ (stepAt ks j).reads, (E (posn pl x + 1)).get t = (E (posn pl j)).get t := by
            intro t ht
            rw [hkpt t (by simp only [KStep.names, List.mem_append]; exact .inr ht), hval.1, setO_get, if_neg]
            intro h; cases h; exact hdr ht
          have hdst : (E (posn pl x + 1)).get dd = valOf S call ks pl E Hh j := by
            rw [hkpt dd (by rw [hst]; simp [KStep.names, KStep.dst]), hval.1, setO_get, if_pos rfl]
          have hev2 : ∀ y ∈ k.opds, (E (posn pl x + 1)).ev y = e.ev y := by
            intro y hy
            cases y with
            | c v => rfl
            | t n =>
              have hnr : n ∈ (stepAt ks j).reads := by
                rw [hst]; simp only [KStep.reads, KStep.k, List.mem_append, List.mem_filterMap]
                exact .inl ⟨.t n, hy, rfl⟩
              show (E (posn pl x + 1)).get n = e.get n
              rw [hrds n hnr]
              refine (hag n ?_).symm
              rw [hst] at hnr
              simp only [KStep.names, List.mem_append]; exact .inr hnr
          have hw2 : wants (E (posn pl x + 1)) g = wants e g := by
            cases g with
            | none => rfl
            | some sw =>
              obtain ⟨sl, w⟩ := sw
              simp only [wants]
              have hnr : sl ∈ (stepAt ks j).reads := by rw [hst]; simp [KStep.reads, KStep.g, guardL]
              rw [hrds sl hnr, hag sl (by rw [hst] at hnr; simp only [KStep.names, List.mem_append]; exact .inr hnr)]
          simp only [kStep] at hck
          rw [hw2, if_pos hwe] at hck
          simp only [Option.bind_eq_some_iff] at hck
          obtain ⟨⟨v2, H2⟩, hk2, hck⟩ := hck
          split at hck
          · rename_i hvq
            have hv2 : v2 = v := by
              have h1 : v2 = (E (posn pl x + 1)).get dd := veq_eq hvq
              rw [h1, hdst, hvj]
            have hH2 := read_same hcl hk2
            have hHx : H = Hh (posn pl x + 1) := by rw [hH]; unfold HT; rw [hla]
            refine done H ?_ hH'
            have := exec_congr S call (k := k) (e := E (posn pl x + 1)) (e2 := e) (Hh (posn pl x + 1)) hev2
            rw [exec_kop hne, exec_kop hne, hk2, hv2, hH2] at this
            rw [exec_kop hne, hHx]; exact this.symm
          · cases hck
  · rw [if_neg hwe] at hstep hvw
    have hHn : Hh (posn pl j + 1) = Hh (posn pl j) := by
      simp only [Option.some.injEq, Prod.mk.injEq] at hstep; exact hstep.2.symm
    have hH' : H = HT ks pl Hh T' := by
      rw [hextH]
      split
      · rename_i hie
        rw [hHn, hH, cH]
        refine HT_same fun i hi hei => ?_
        by_cases hij : i = j
        · subst hij; exact hself
        · exact hcmp i (hp.low i hi) (hp.effs i j (hp.low i hi) hj hij hei hie)
      · exact hH
    obtain ⟨f1, f2⟩ := fin undef H hvw.symm hH'
    exact ⟨setO e d undef, H, by rw [if_neg hwe], f1, f2⟩

end

section
variable {P : Program} {B : Nat} {w0 : World}

theorem ERel_congr {ρ : Rho} {e e2 : Env} {a : Act} (h : ERel P ρ e a) (he : ∀ t, e2.get t = e.get t) : ERel P ρ e2 a := fun n => by rw [he n]; exact h n

theorem any_ok {S : Sys} {call : CallO} (hS : MethOK P S) (hcall : ∀ B w0, CallOK P B w0 call) {nt : Nat} {ops : Array Oper} {ks : List KStep} {ms : List Nat} {pl : List (Nat × List Nat)} {E : Nat → Env} {Hh : Nat → Heap}
    {ks0 : List KStep} (hks : cSteps P nt ops ops.toList = some ks0) (hk0 : ks = ks0 ∨ ks = ks0.map toP) (hp : Plan ks ops.toList ms pl) (hr : Ran S call ks pl E Hh) {Q : Exit → Act → World → Prop} : ∀ (fuel : Nat) (listed : Array Bool) (e : Env) (H : Heap) (ρ : Rho) (a : Act) (w : World),
    listed.size = ops.size → ((List.range ops.size).filter fun i => !listed.getD i false).length ≤ fuel → Closed ops.toList (fun i => listed.getD i false) →
    (∀ t, e.get t = WT S call ks pl E Hh (fun i => listed.getD i false) t) → H = HT ks pl Hh (fun i => listed.getD i false) → ERel P ρ e a → HRel P B w0 ρ H w → AOK nt a →
    (∀ ρ' a' w', ρ <+: ρ' → ERel P ρ' (E ks.length) a' → HRel P B w0 ρ' (Hh ks.length) w' → AOK nt a' → Q .normal a' w') → wpAny P .any ops Q fuel listed a w := by
  have hlen : ks.length = ops.toList.length := by
    have := (cSteps_at hks).1
    rcases hk0 with rfl | rfl
    · exact this
    · simpa using this
  have hfinal : ∀ (listed : Array Bool) (e : Env) (H : Heap) (ρ : Rho) (a : Act) (w : World), (∀ i, i < ops.size → listed.getD i false = true) →
      (∀ t, e.get t = WT S call ks pl E Hh (fun i => listed.getD i false) t) → H = HT ks pl Hh (fun i => listed.getD i false) → ERel P ρ e a → HRel P B w0 ρ H w → AOK nt a →
      (∀ ρ' a' w', ρ <+: ρ' → ERel P ρ' (E ks.length) a' → HRel P B w0 ρ' (Hh ks.length) w' → AOK nt a' → Q .normal a' w') → Q .normal a w := by
    intro listed e H ρ a w hall he hH hE hR ha hQ
    obtain ⟨c1, c2⟩ := canon hp hr ks.length (Nat.le_refl _)
    have hsame : ∀ i ∈ ordr pl, listed.getD i false = Tp ks pl ks.length i := by
      intro i hi
      have h1 := hp.low i hi
      have h2 := (pos_at hp h1).1
      rw [hall i (by have := hlen; simp at this; omega)]
      simp [Tp, h1, h2]
    refine hQ ρ a w (List.prefix_refl _) (ERel_congr hE fun t => ?_) ?_ ha
    · rw [c1 t, he t]; exact (WT_same t fun i hi _ => hsame i hi).symm
    · rw [c2, ← HT_same (T := fun i => listed.getD i false) (fun i hi _ => hsame i hi), ← hH]; exact hR
  have hnone : ∀ (listed : Array Bool), listed.size = ops.size → Closed ops.toList (fun i => listed.getD i false) → Region.ready .any ops listed = [] → ∀ i, i < ops.size → listed.getD i false = true := by
    intro listed hsz hcl hnil i hi
    -- what stands first of those that are open would be ready
    have key : ∀ p i, posn pl i = p → i < ops.size → listed.getD i false = true := by
      intro p
      induction p using Nat.strongRecOn with
      | _ p ih =>
        intro i hpi hi
        cases hq : listed.getD i false with
        | true => rfl
        | false =>
          exfalso
          have hin : i < ks.length := by have := hlen; simp at this; omega
          have : i ∈ Region.ready .any ops listed := by
            rw [mem_ready]
            refine ⟨?_, ops[i], by simp [hi], ?_⟩
            · have hlt : i < listed.size := by omega
              simp only [Array.getD_eq_getD_getElem?, Array.getElem?_eq_getElem hlt, Option.getD_some] at hq ⊢
              exact hq
            · intro ed hed hb
              have := hp.edge i ops[i] hin (by simp [hi]) ed hed hb
              exact ih (posn pl ed.on) (by omega) ed.on rfl (by omega)
          rw [hnil] at this; cases this
    exact key _ i rfl hi
  intro fuel
  induction fuel with
  | zero =>
    intro listed e H ρ a w hsz hcnt hcl he hH hE hR ha hQ
    have hall : ∀ i, i < ops.size → listed.getD i false = true := by
      intro i hi
      have hnil := List.eq_nil_of_length_eq_zero (Nat.le_zero.1 hcnt)
      have := List.filter_eq_nil_iff.1 hnil i (List.mem_range.2 hi)
      simpa using this
    refine ⟨?_, hfinal listed e H ρ a w hall he hH hE hR ha hQ⟩
    rw [List.eq_nil_iff_forall_not_mem]
    intro i hi
    obtain ⟨h1, o, ho, _⟩ := mem_ready.1 hi
    have hlt : i < ops.size := (Array.getElem?_eq_some_iff.1 ho).1
    have h2 := hall i hlt
    have hlt' : i < listed.size := by omega
    simp only [Array.getD_eq_getD_getElem?, Array.getElem?_eq_getElem hlt', Option.getD_some] at h1 h2
    rw [h1] at h2; cases h2
  | succ fuel ih =>
    intro listed e H ρ a w hsz hcnt hcl he hH hE hR ha hQ
    refine ⟨fun hnil => hfinal listed e H ρ a w (hnone listed hsz hcl hnil) he hH hE hR ha hQ, fun j hj => ?_⟩
    obtain ⟨h1, o, ho, hpre⟩ := mem_ready.1 hj
    have hjo : j < ops.size := (Array.getElem?_eq_some_iff.1 ho).1
    have hjl : j < listed.size := by omega
    have hjk : j < ks.length := by have := hlen; simp at this; omega
    have hTj : listed.getD j false = false := by
      simp only [Array.getD_eq_getD_getElem?, Array.getElem?_eq_getElem hjl, Option.getD_some] at h1 ⊢; exact h1
    have hT : ∀ i, (listed.setIfInBounds j true).getD i false = (listed.getD i false || i == j) := by
      intro i
      by_cases hij : i = j
      · subst hij; simp [hjl]
      · rw [beq_false_of_ne hij, Bool.or_false, getD_set_ne false (fun e => hij e.symm)]
    have hrd : Ready ops.toList (fun i => listed.getD i false) j := by
      intro o' ho' ed hed hb
      have : o' = o := by
        have h1 : ops.toList[j]? = ops[j]? := by simp
        rw [h1, ho] at ho'; cases ho'; rfl
      subst this
      exact hpre ed hed hb
    obtain ⟨e', H', hst, he', hH'⟩ := step_any (T' := fun i => (listed.setIfInBounds j true).getD i false) hp hr hcl hjk hTj hrd hT he hH
    obtain ⟨s, hs, hcs⟩ := (cSteps_at hks).2 j o (by simpa using ho)
    obtain ⟨g, k, rfl, hd, hg, hc, hoc⟩ := step_some hcs
    have hsa : ∃ k', AsP k k' ∧ stepAt ks j = .op o.dst g k' := by
      rcases hk0 with rfl | rfl
      · exact ⟨k, .inl rfl, by simp [stepAt, List.getD, hs]⟩
      · have h1 : (ks0.map toP)[j]? = some (toP (.op o.dst g k)) := by rw [List.getElem?_map, hs]; rfl
        have h2 : stepAt (ks0.map toP) j = toP (.op o.dst g k) := by simp only [stepAt, List.getD, h1, Option.getD_some]
        rw [h2]
        cases k <;> first
          | exact ⟨_, .inr ⟨_, _, rfl, rfl⟩, rfl⟩
          | exact ⟨_, .inl rfl, rfl⟩
    obtain ⟨k', hkp, hsa⟩ := hsa
    rw [hsa] at hst
    refine one_ok hS hcall ho hd hg hc hoc hkp hE hR ha hst ?_
    intro ρ1 a1 w1 hp1 he1 hH1 ha1
    refine ih (listed.setIfInBounds j true) e' H' ρ1 a1 w1 (by simpa using hsz) ?_ ?_ he' hH' he1 hH1 ha1 (fun ρ' a' w' hp' => hQ ρ' a' w' (hp1.trans hp'))
    · have hf : (List.range ops.size).filter (fun i => !(listed.setIfInBounds j true).getD i false) = ((List.range ops.size).filter fun i => !listed.getD i false).filter fun i => decide (i ≠ j) := by
        rw [List.filter_filter]
        refine List.filter_congr fun i _ => ?_
        rw [hT i]
        by_cases hij : i = j
        · subst hij; simp
        · rw [beq_false_of_ne hij]; simp [hij]
      rw [hf]
      have hlt := (List.length_filter_lt_length_iff_exists (p := fun i => decide (i ≠ j)) (l := (List.range ops.size).filter fun i => !listed.getD i false)).2 ⟨j, List.mem_filter.2 ⟨List.mem_range.2 hjo, by simp only [hTj]; rfl⟩, by simp⟩
      omega
    · intro i o' hi ho' ed hed hb
      simp only at hi ⊢
      rw [hT] at hi ⊢
      simp only [Bool.or_eq_true, beq_iff_eq] at hi ⊢
      rcases hi with hi | rfl
      · exact .inl (hcl i o' hi ho' ed hed hb)
      · exact .inl (hrd o' ho' ed hed hb)

theorem draw_ok0 {S : Sys} {call : CallO} (hS : MethOK P S) (hcall : ∀ B w0, CallOK P B w0 call) (hm : P.follows .mixedOrders = true) {nt id : Nat} {ops : Array Oper} {steps ks0 ks : List KStep} (hks : cSteps P nt ops ops.toList = some ks0) (hk0 : ks = ks0 ∨ ks = ks0.map toP)
    (hok : planOk ks ops.toList (masks ops.toList) (mkPlan ks ops.toList (masks ops.toList) ks.length []) = true) (hc : planSteps ks (mkPlan ks ops.toList (masks ops.toList) ks.length []) = some steps)
    {e e' : Env} {H H' : Heap} {ρ : Rho} {a : Act} {w : World} (hk : kSteps S call steps e H = some (e', H')) (hE : ERel P ρ e a) (hR : HRel P B w0 ρ H w) (ha : AOK nt a) {Q : Exit → Act → World → Prop}
    (hQ : ∀ ρ' a' w', ρ <+: ρ' → ERel P ρ' e' a' → HRel P B w0 ρ' H' w' → AOK nt a' → Q .normal a' w') : (Code.region id ops true).wp P Q a w := by
  have hp := plan_of hok
  obtain ⟨E, Hh, hE0, hH0, hEf, hHf, hat⟩ := run_plan hc hk
  have hplen : (mkPlan ks ops.toList (masks ops.toList) ks.length []).length = ks.length := by have := hp.plen; simpa [ordr] using this
  rw [hplen] at hEf hHf
  have hlen0 : ks0.length = ks.length := by rcases hk0 with rfl | rfl <;> simp
  have hr : Ran S call ks _ E Hh := ⟨hat, fun i hi => by
    obtain ⟨h1, h2⟩ := cSteps_at hks
    obtain ⟨o, ho⟩ : ∃ o, ops.toList[i]? = some o := ⟨ops.toList[i]'(by omega), List.getElem?_eq_getElem _⟩
    obtain ⟨s, hs, hcs⟩ := h2 i o ho
    obtain ⟨g, k, rfl, _⟩ := step_some hcs
    rcases hk0 with rfl | rfl
    · exact ⟨o.dst, g, k, by simp [stepAt, List.getD, hs]⟩
    · have h1 : (ks0.map toP)[i]? = some (toP (.op o.dst g k)) := by rw [List.getElem?_map, hs]; rfl
      have h2 : stepAt (ks0.map toP) i = toP (.op o.dst g k) := by simp only [stepAt, List.getD, h1, Option.getD_some]
      rw [h2]
      cases k <;> exact ⟨_, _, _, rfl⟩⟩
  refine wp_region_any hm ?_
  have hw : HRel P B w0 ρ H { w with drawn := w.drawn + 1 } := hR.drew
  have hfalse : ∀ i, (Array.replicate ops.size false).getD i false = false := by
    intro i
    rw [Array.getD_eq_getD_getElem?]
    cases h : (Array.replicate ops.size false)[i]? with
    | none => rfl
    | some b =>
      have := (Array.getElem?_eq_some_iff.1 h)
      obtain ⟨h1, h2⟩ := this
      simp at h2
      simp [← h2]
  have hnil : ∀ q : Nat → Bool, (ordr (mkPlan ks ops.toList (masks ops.toList) ks.length [])).filter (fun i => (Array.replicate ops.size false).getD i false && q i) = [] := fun q => by
    rw [List.filter_eq_nil_iff]; intro i _; simp [hfalse i]
  refine any_ok hS hcall hks hk0 hp hr ops.size (Array.replicate ops.size false) e H ρ a _ (by simp) ?_ ?_ ?_ ?_ hE hw ha (by rw [hEf, hHf]; exact hQ)
  · exact Nat.le_trans (List.length_filter_le _ _) (by simp)
  · intro i o hi; simp only at hi; rw [hfalse i] at hi; cases hi
  · intro t; unfold WT; rw [hnil, ← hE0]; rfl
  · unfold HT; rw [hnil, ← hH0]; rfl

/-- a region that draws its order -/
theorem draw_ok {S : Sys} {call : CallO} (hS : MethOK P S) (hcall : ∀ B w0, CallOK P B w0 call) (hm : P.follows .mixedOrders = true) {nt id : Nat} {ops : Array Oper} {steps : List KStep} (hc : cDraw P nt ops = some steps)
    {e e' : Env} {H H' : Heap} {ρ : Rho} {a : Act} {w : World} (hk : kSteps S call steps e H = some (e', H')) (hE : ERel P ρ e a) (hR : HRel P B w0 ρ H w) (ha : AOK nt a) {Q : Exit → Act → World → Prop}
    (hQ : ∀ ρ' a' w', ρ <+: ρ' → ERel P ρ' e' a' → HRel P B w0 ρ' H' w' → AOK nt a' → Q .normal a' w') : (Code.region id ops true).wp P Q a w := by
  simp only [cDraw, Option.bind_eq_some_iff] at hc
  obtain ⟨ks, hks, hc⟩ := hc
  split at hc
  · rename_i hok
    exact draw_ok0 hS hcall hm hks (.inl rfl) hok hc hk hE hR ha hQ
  · split at hc
    · rename_i hok
      exact draw_ok0 hS hcall hm hks (.inr rfl) (by rw [List.length_map]; exact hok) (by rw [List.length_map]; exact hc) hk hE hR ha hQ
    · cases hc

end
end Go.Proofs.Ytlboioplemlneaa.K
