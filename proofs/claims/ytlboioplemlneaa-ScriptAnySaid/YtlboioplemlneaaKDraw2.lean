/- A region whose order is open: the one order that K runs tells of them all. -/
import Derived.Test.YtlboioplemlneaaKDraw
set_option linter.unusedVariables false
set_option linter.unusedSimpArgs false
namespace Go.Proofs.Ytlboioplemlneaa.K
open Go Go.RowKit

section
variable {P : Program} {B : Nat} {w0 : World}

theorem cSteps_at {nt : Nat} {ops : Array Oper} : ∀ {os : List Oper} {ks : List KStep}, cSteps P nt ops os = some ks → ks.length = os.length ∧ ∀ (i : Nat) o, os[i]? = some o → ∃ s, ks[i]? = some s ∧ cStep P nt ops o = some s
  | [], ks, h => by simp [cSteps] at h; subst h; exact ⟨rfl, fun i o ho => by simp at ho⟩
  | o :: os, ks, h => by
    simp only [cSteps, Option.bind_eq_some_iff, Option.map_eq_some_iff] at h
    obtain ⟨s, hs, l, hl, rfl⟩ := h
    obtain ⟨h1, h2⟩ := cSteps_at hl
    refine ⟨by simp [h1], fun i o' ho => ?_⟩
    cases i with
    | zero => simp at ho; subst ho; exact ⟨s, rfl, hs⟩
    | succ i => simp at ho; simpa using h2 i o' ho

theorem kSteps_append (S : Sys) (call : CallO) : ∀ (l r : List KStep) (e : Env) (H : Heap), kSteps S call (l ++ r) e H = (kSteps S call l e H).bind fun p => kSteps S call r p.1 p.2
  | [], r, e, H => by simp [kSteps]
  | s :: l, r, e, H => by
    simp only [List.cons_append, kSteps]
    cases kStep S call s e H with
    | none => rfl
    | some p => simp [kSteps_append S call l r p.1 p.2]

theorem chk_state {S : Sys} {call : CallO} {d : Nat} {g : Option (Nat × Bool)} {k : KOp} {e e' : Env} {H H' : Heap} (h : kStep S call (.chk d g k) e H = some (e', H')) : e' = e ∧ H' = H := by
  simp only [kStep] at h
  split at h
  · simp only [Option.bind_eq_some_iff] at h
    obtain ⟨p, hp, h⟩ := h
    split at h
    · cases h; exact ⟨rfl, rfl⟩
    · cases h
  · cases h; exact ⟨rfl, rfl⟩

theorem run_chks {S : Sys} {call : CallO} {ks : List KStep} {e : Env} {H : Heap} : ∀ {cs : List Nat} {l : List KStep} {e' : Env} {H' : Heap}, cs.mapM (fun j => (ks[j]?).bind chkOf) = some l → kSteps S call l e H = some (e', H') →
    e' = e ∧ H' = H ∧ ∀ j ∈ cs, ∃ c, (ks[j]?).bind chkOf = some c ∧ kStep S call c e H = some (e, H)
  | [], l, e', H', hm, hr => by
    simp at hm; subst hm
    simp [kSteps] at hr
    exact ⟨hr.1.symm, hr.2.symm, fun j hj => by simp at hj⟩
  | j :: cs, l, e', H', hm, hr => by
    simp only [List.mapM_cons, Option.bind_eq_bind, Option.bind_eq_some_iff, Option.pure_def, Option.some.injEq] at hm
    obtain ⟨c, hc, l', hl', rfl⟩ := hm
    simp only [kSteps, Option.bind_eq_some_iff] at hr
    obtain ⟨⟨e1, H1⟩, h1, hr⟩ := hr
    obtain ⟨s, hs, hcs⟩ := hc
    have hch : ∃ d g k, c = .chk d g k := by
      unfold chkOf at hcs; split at hcs
      · cases hcs; exact ⟨_, _, _, rfl⟩
      · cases hcs
    obtain ⟨d, g, k, rfl⟩ := hch
    obtain ⟨rfl, rfl⟩ := chk_state h1
    obtain ⟨h2, h3, h4⟩ := run_chks (by simpa using hl') hr
    refine ⟨h2, h3, fun i hi => ?_⟩
    rcases List.mem_cons.1 hi with rfl | hi
    · exact ⟨_, by rw [hs]; exact hcs, h1⟩
    · exact h4 i hi

theorem run_plan {S : Sys} {call : CallO} {ks : List KStep} : ∀ {pl : List (Nat × List Nat)} {steps : List KStep} {e ef : Env} {H Hf : Heap}, planSteps ks pl = some steps → kSteps S call steps e H = some (ef, Hf) →
    ∃ (E : Nat → Env) (Hh : Nat → Heap), E 0 = e ∧ Hh 0 = H ∧ E pl.length = ef ∧ Hh pl.length = Hf ∧ ∀ (p i : Nat) cs, pl[p]? = some (i, cs) → kStep S call (stepAt ks i) (E p) (Hh p) = some (E (p + 1), Hh (p + 1)) ∧
      ∀ j ∈ cs, ∃ c, (ks[j]?).bind chkOf = some c ∧ kStep S call c (E (p + 1)) (Hh (p + 1)) = some (E (p + 1), Hh (p + 1))
  | [], steps, e, ef, H, Hf, hp, hr => by
    simp [planSteps] at hp; subst hp
    simp [kSteps] at hr
    exact ⟨fun _ => e, fun _ => H, rfl, rfl, hr.1, hr.2, fun p i cs h => by simp at h⟩
  | (i, cs) :: pl, steps, e, ef, H, Hf, hp, hr => by
    simp only [planSteps, Option.bind_eq_some_iff, Option.map_eq_some_iff] at hp
    obtain ⟨s, hs, l, hl, r, hr', rfl⟩ := hp
    simp only [kSteps, Option.bind_eq_some_iff] at hr
    obtain ⟨⟨e1, H1⟩, h1, hr⟩ := hr
    rw [kSteps_append] at hr
    simp only [Option.bind_eq_some_iff] at hr
    obtain ⟨⟨e2, H2⟩, h2, hr⟩ := hr
    obtain ⟨rfl, rfl, hch⟩ := run_chks hl h2
    obtain ⟨E, Hh, hE, hH, hEf, hHf, hat⟩ := run_plan hr' hr
    refine ⟨fun p => match p with | 0 => e | p + 1 => E p, fun p => match p with | 0 => H | p + 1 => Hh p, rfl, rfl, hEf, hHf, fun p j ds hpj => ?_⟩
    cases p with
    | zero =>
      simp at hpj
      obtain ⟨rfl, rfl⟩ := hpj
      have hst : stepAt ks i = s := by simp [stepAt, List.getD, hs]
      refine ⟨?_, fun j hj => ?_⟩
      · show kStep S call (stepAt ks i) e H = some (E 0, Hh 0)
        rw [hst, hE, hH]; exact h1
      · show ∃ c, (ks[j]?).bind chkOf = some c ∧ kStep S call c (E 0) (Hh 0) = some (E 0, Hh 0)
        rw [hE, hH]
        exact hch j hj
    | succ p => exact hat p j ds (by simpa using hpj)

theorem mask_mem {ms : List Nat} {o : Oper} {i : Nat} (h : (mask1 ms o).testBit i = true) : ∃ e ∈ o.after, Region.binds .any e = true ∧ (e.on = i ∨ (ms.getD e.on 0).testBit i = true) := by
  have gen : ∀ (l : List Edge) (s : Nat), (l.foldl (fun s e => if Region.binds .any e then s ||| 2 ^ e.on ||| ms.getD e.on 0 else s) s).testBit i = true →
      s.testBit i = true ∨ ∃ e ∈ l, Region.binds .any e = true ∧ (e.on = i ∨ (ms.getD e.on 0).testBit i = true) := by
    intro l
    induction l with
    | nil => intro s h; exact .inl h
    | cons e l ih =>
      intro s h
      simp only [List.foldl_cons] at h
      rcases ih _ h with h | ⟨e', he', hb⟩
      · split at h
        · rename_i hbind
          simp only [Nat.testBit_or, Bool.or_eq_true, Nat.testBit_two_pow] at h
          rcases h with (h | h) | h
          · exact .inl h
          · exact .inr ⟨e, by simp, hbind, .inl (by simpa using h)⟩
          · exact .inr ⟨e, by simp, hbind, .inr h⟩
        · exact .inl h
      · exact .inr ⟨e', by simp [he'], hb⟩
  rcases gen o.after.toList 0 h with h | ⟨e, he, hb⟩
  · simp at h
  · exact ⟨e, by simpa using he, hb⟩

/-- the last of a list that is chosen, when one more is chosen that stands behind all that were -/
theorem last_ext (q q' : Nat → Bool) (j : Nat) : ∀ (π : List Nat), π.Nodup → j ∈ π → (∀ i ∈ π, q' i = (q i || i == j)) → (∀ i ∈ π, q i = true → π.idxOf i < π.idxOf j) → (π.filter q').getLast? = some j
  | [], _, hj, _, _ => by simp at hj
  | a :: π, hn, hj, hq, hlt => by
    obtain ⟨hna, hn'⟩ := List.nodup_cons.1 hn
    by_cases haj : a = j
    · subst haj
      have hz : ∀ i ∈ π, q' i = false := by
        intro i hi
        rw [hq i (by simp [hi])]
        have hia : i ≠ a := fun e => hna (e ▸ hi)
        have : q i = false := by
          cases hqi : q i with
          | false => rfl
          | true => have := hlt i (by simp [hi]) hqi; simp at this
        simp [this, hia]
      have hqa : q' a = true := by rw [hq a (by simp)]; simp
      have : π.filter q' = [] := by rw [List.filter_eq_nil_iff]; intro i hi; simp [hz i hi]
      simp [List.filter_cons, hqa, this]
    · have hj' : j ∈ π := by rcases List.mem_cons.1 hj with h | h; exact absurd h.symm haj; exact h
      have ih := last_ext q q' j π hn' hj' (fun i hi => hq i (by simp [hi])) (fun i hi hqi => by
        have := hlt i (by simp [hi]) hqi
        have hia : a ≠ i := fun e => hna (e ▸ hi)
        simp only [List.idxOf_cons, beq_iff_eq] at this
        have h1 : (a == i) = false := by simpa using hia
        have h2 : (a == j) = false := by simpa using haj
        simp only [h1, h2, cond_false] at this
        omega)
      rw [List.filter_cons]
      split
      · rw [List.getLast?_cons, ih]; rfl
      · exact ih

structure Draw (S : Sys) (call : CallO) (ks : List KStep) (ops : List Oper) (ms : List Nat) (pl : List (Nat × List Nat)) (e0 ef : Env) (H0 Hf : Heap) (E : Nat → Env) (Hh : Nat → Heap) : Prop where
  ok : planOk ks ops ms pl = true
  E0 : E 0 = e0
  H0 : Hh 0 = H0
  Ef : E pl.length = ef
  Hf : Hh pl.length = Hf
  at_ : ∀ (p i : Nat) cs, pl[p]? = some (i, cs) → kStep S call (stepAt ks i) (E p) (Hh p) = some (E (p + 1), Hh (p + 1)) ∧
      ∀ j ∈ cs, ∃ c, (ks[j]?).bind chkOf = some c ∧ kStep S call c (E (p + 1)) (Hh (p + 1)) = some (E (p + 1), Hh (p + 1))
  isOp : ∀ (i : Nat), i < ks.length → ∃ d g k, stepAt ks i = .op d g k
  opOk : ∀ (i : Nat) o, ops[i]? = some o → o.dst = (stepAt ks i).dst

end

section
variable {S : Sys} {call : CallO} {ks : List KStep} {ops : List Oper} {ms : List Nat} {pl : List (Nat × List Nat)} {e0 ef : Env} {H0 Hf : Heap} {E : Nat → Env} {Hh : Nat → Heap}

def ordr (pl : List (Nat × List Nat)) : List Nat := pl.map (·.1)
def posn (pl : List (Nat × List Nat)) (i : Nat) : Nat := (ordr pl).idxOf i
def isEff (ks : List KStep) (i : Nat) : Bool := cls (stepAt ks i).k == .eff

structure Plan (ks : List KStep) (ops : List Oper) (ms : List Nat) (pl : List (Nat × List Nat)) : Prop where
  len : ops.length = ks.length
  plen : (ordr pl).length = ks.length
  mem : ∀ i, i < ks.length → i ∈ ordr pl
  nodup : (ordr pl).Nodup
  low : ∀ i ∈ ordr pl, i < ks.length
  mask : ∀ (j : Nat) o, j < ks.length → ops[j]? = some o → ms.getD j 0 = mask1 ms o
  edge : ∀ (j : Nat) o, j < ks.length → ops[j]? = some o → ∀ e ∈ o.after, Region.binds .any e = true → e.on < j ∧ posn pl e.on < posn pl j
  slots : ∀ i j d, i < ks.length → j < ks.length → i ≠ j → (stepAt ks i).dst = some d → d ∈ (stepAt ks j).names → bef ms i j = true ∨ bef ms j i = true
  effs : ∀ i j, i < ks.length → j < ks.length → i ≠ j → isEff ks i = true → isEff ks j = true → bef ms i j = true ∨ bef ms j i = true
  early : ∀ j x, j < ks.length → x < ks.length → cls (stepAt ks j).k = .read → isEff ks x = true → posn pl x < posn pl j → bef ms x j = true
  late : ∀ j x, j < ks.length → x < ks.length → cls (stepAt ks j).k = .read → isEff ks x = true → ¬ posn pl x < posn pl j → bef ms j x = false →
    j ∈ ((pl.map (·.2)).getD (posn pl x) []) ∧ (∃ d, (stepAt ks j).dst = some d ∧ d ∉ (stepAt ks j).reads) ∧ ∀ r d, r < ks.length → posn pl j < r → r ≤ posn pl x → (stepAt ks ((ordr pl).getD r 0)).dst = some d → d ∉ (stepAt ks j).names

theorem plan_of (h : planOk ks ops ms pl = true) : Plan ks ops ms pl := by
  unfold planOk at h
  simp only [Bool.and_eq_true, decide_eq_true_eq, List.all_eq_true, List.mem_range] at h
  obtain ⟨⟨⟨⟨⟨⟨⟨⟨h1, h2⟩, h3⟩, h4⟩, h4b⟩, h5⟩, h6⟩, h7⟩, h8⟩ := h
  refine ⟨h1, h2, fun i hi => by simpa [ordr] using h3 i hi, h4, fun i hi => h4b i hi, ?_, ?_, ?_, ?_, ?_, ?_⟩
  · intro j o hj ho
    have := h5 j hj
    rw [ho] at this
    simp only [Bool.and_eq_true, decide_eq_true_eq] at this
    exact this.1
  · intro j o hj ho e he hb
    have := h5 j hj
    rw [ho] at this
    simp only [Bool.and_eq_true, decide_eq_true_eq] at this
    have := Array.all_eq_true_iff_forall_mem.1 this.2 e he
    simpa [hb, posn, ordr] using this
  · intro i j d hi hj hne hd hm
    have := h6 i hi
    rw [hd] at this
    simp only [List.all_eq_true, List.mem_range] at this
    have := this j hj
    simp only [Bool.or_eq_true, beq_iff_eq, Bool.not_eq_true', hne, false_or] at this
    rcases this with (h | h) | h
    · rw [List.contains_eq_mem] at h; simp [hm] at h
    · exact .inl h
    · exact .inr h
  · intro i j hi hj hne he1 he2
    have := h7 i hi
    simp only [isEff, beq_iff_eq] at he1 he2
    simp only [he1, bne_self_eq_false, Bool.false_or, List.all_eq_true, List.mem_range] at this
    have := this j hj
    simpa [hne, he2] using this
  · intro j x hj hx hr he hlt
    have := h8 j hj
    simp only [isEff, beq_iff_eq] at he
    simp only [hr, bne_self_eq_false, Bool.false_or, List.all_eq_true, List.mem_range] at this
    have := this x hx
    simp only [he, bne_self_eq_false, Bool.false_or] at this
    have hlt' : List.idxOf x (List.map (fun x => x.fst) pl) < List.idxOf j (List.map (fun x => x.fst) pl) := hlt
    rw [if_pos hlt'] at this
    exact this
  · intro j x hj hx hr he hlt hb
    have := h8 j hj
    simp only [isEff, beq_iff_eq] at he
    simp only [hr, bne_self_eq_false, Bool.false_or, List.all_eq_true, List.mem_range] at this
    have := this x hx
    simp only [he, bne_self_eq_false, Bool.false_or] at this
    have hlt' : ¬ List.idxOf x (List.map (fun x => x.fst) pl) < List.idxOf j (List.map (fun x => x.fst) pl) := hlt
    rw [if_neg hlt'] at this
    simp only [hb, Bool.false_or, Bool.and_eq_true, List.contains_eq_mem, decide_eq_true_eq, List.all_eq_true, List.mem_range] at this
    obtain ⟨⟨t1, t2⟩, t3⟩ := this
    have t2' : ∃ d, (stepAt ks j).dst = some d ∧ d ∉ (stepAt ks j).reads := by
      split at t2
      · rename_i d hd; exact ⟨d, hd, by simpa using t2⟩
      · cases t2
    refine ⟨t1, t2', fun r d hr1 hr2 hr3 hd => ?_⟩
    have := t3 r hr1
    have hd' : (stepAt ks ((List.map (fun x => x.fst) pl).getD r 0)).dst = some d := hd
    rw [hd'] at this
    have e1 : decide (List.idxOf j (List.map (fun x => x.fst) pl) < r) = true := by simpa [posn, ordr] using hr2
    have e2 : decide (r ≤ List.idxOf x (List.map (fun x => x.fst) pl)) = true := by simpa [posn, ordr] using hr3
    rw [e1, e2] at this
    simpa using this

/-- what is done is closed -/
def Closed (ops : List Oper) (T : Nat → Bool) : Prop := ∀ (j : Nat) o, T j = true → ops[j]? = some o → ∀ e ∈ o.after, Region.binds .any e = true → T e.on = true
def Ready (ops : List Oper) (T : Nat → Bool) (j : Nat) : Prop := ∀ o, ops[j]? = some o → ∀ e ∈ o.after, Region.binds .any e = true → T e.on = true

theorem bef_ready (hp : Plan ks ops ms pl) {T : Nat → Bool} (hc : Closed ops T) : ∀ (j : Nat), j < ks.length → Ready ops T j → ∀ i, bef ms i j = true → T i = true := by
  intro j
  induction j using Nat.strongRecOn with
  | _ j ih =>
    intro hj hr i hb
    obtain ⟨o, ho⟩ : ∃ o, ops[j]? = some o := ⟨ops[j]'(by rw [hp.len]; exact hj), List.getElem?_eq_getElem _⟩
    unfold bef at hb
    rw [hp.mask j o hj ho] at hb
    obtain ⟨e, he, hbind, h⟩ := mask_mem hb
    have hT := hr o ho e he hbind
    rcases h with rfl | h
    · exact hT
    · have hlt := (hp.edge j o hj ho e he hbind).1
      exact ih e.on hlt (by omega) (fun o' ho' e' he' hb' => hc e.on o' hT ho' e' he' hb') i h

def wr1 (ks : List KStep) (t i : Nat) : Bool := (stepAt ks i).dst == some t
def valOf (S : Sys) (call : CallO) (ks : List KStep) (pl : List (Nat × List Nat)) (E : Nat → Env) (Hh : Nat → Heap) (i : Nat) : Value :=
  if wants (E (posn pl i)) (stepAt ks i).g then ((kExec S call (stepAt ks i).k (E (posn pl i)) (Hh (posn pl i))).map (·.1)).getD undef else undef
def WT (S : Sys) (call : CallO) (ks : List KStep) (pl : List (Nat × List Nat)) (E : Nat → Env) (Hh : Nat → Heap) (T : Nat → Bool) (t : Nat) : Value :=
  match ((ordr pl).filter fun i => T i && wr1 ks t i).getLast? with
  | some i => valOf S call ks pl E Hh i
  | none => (E 0).get t
def HT (ks : List KStep) (pl : List (Nat × List Nat)) (Hh : Nat → Heap) (T : Nat → Bool) : Heap :=
  match ((ordr pl).filter fun i => T i && isEff ks i).getLast? with
  | some x => Hh (posn pl x + 1)
  | none => Hh 0

theorem pos_at (hp : Plan ks ops ms pl) {i : Nat} (hi : i < ks.length) : posn pl i < ks.length ∧ ∃ cs, pl[posn pl i]? = some (i, cs) := by
  have h1 : posn pl i < (ordr pl).length := List.idxOf_lt_length_of_mem (hp.mem i hi)
  have h2 : (ordr pl)[posn pl i]? = some i := by
    rw [List.getElem?_eq_getElem h1]; congr 1; exact List.getElem_idxOf h1
  refine ⟨by rw [← hp.plen]; exact h1, ?_⟩
  simp only [ordr, List.getElem?_map, Option.map_eq_some_iff] at h2
  obtain ⟨⟨a, cs⟩, h2, rfl⟩ := h2
  exact ⟨cs, h2⟩

theorem pos_of (hp : Plan ks ops ms pl) {p i : Nat} {cs : List Nat} (h : pl[p]? = some (i, cs)) : posn pl i = p := by
  have h1 : (ordr pl)[p]? = some i := by simp [ordr, h]
  have hlt := (List.getElem?_eq_some_iff.1 h1).1
  have hm : i ∈ ordr pl := List.mem_of_getElem? h1
  have h2 : posn pl i < (ordr pl).length := List.idxOf_lt_length_of_mem hm
  have h3 : (ordr pl)[posn pl i]? = some i := by
    rw [List.getElem?_eq_getElem h2]; congr 1; exact List.getElem_idxOf h2
  exact (List.getElem?_inj h2 hp.nodup).1 (by rw [h3, h1])

theorem pos_inj (hp : Plan ks ops ms pl) {i j : Nat} (hi : i < ks.length) (hj : j < ks.length) (h : posn pl i = posn pl j) : i = j := by
  obtain ⟨_, c1, h1⟩ := pos_at hp hi
  obtain ⟨_, c2, h2⟩ := pos_at hp hj
  rw [h] at h1; rw [h1] at h2; cases h2; rfl

theorem lt_of_mem (hp : Plan ks ops ms pl) {i : Nat} (hi : i ∈ ordr pl) : i < ks.length := hp.low i hi

/-- one more is done: what the slots hold -/
theorem WT_ext (hp : Plan ks ops ms pl) {T T' : Nat → Bool} {j : Nat} (hj : j < ks.length) (hT : ∀ i, T' i = (T i || i == j))
    (hlt : ∀ i d, i < ks.length → T i = true → (stepAt ks j).dst = some d → (stepAt ks i).dst = some d → posn pl i < posn pl j) (t : Nat) :
    WT S call ks pl E Hh T' t = if (stepAt ks j).dst = some t then valOf S call ks pl E Hh j else WT S call ks pl E Hh T t := by
  unfold WT
  by_cases hd : (stepAt ks j).dst = some t
  · rw [if_pos hd]
    have := last_ext (fun i => T i && wr1 ks t i) (fun i => T' i && wr1 ks t i) j (ordr pl) hp.nodup (hp.mem j hj) (fun i hi => by
      rw [hT i]
      by_cases hij : i = j
      · subst hij; simp [wr1, hd]
      · rw [beq_false_of_ne hij, Bool.or_false, Bool.or_false]) (fun i hi hq => by
        simp only [Bool.and_eq_true, wr1, beq_iff_eq] at hq
        exact hlt i t (lt_of_mem hp hi) hq.1 hd hq.2)
    rw [this]
  · rw [if_neg hd]
    have : (ordr pl).filter (fun i => T' i && wr1 ks t i) = (ordr pl).filter fun i => T i && wr1 ks t i := by
      refine List.filter_congr fun i hi => ?_
      rw [hT i]
      by_cases hij : i = j
      · subst hij
        have : wr1 ks t i = false := by simp [wr1, hd]
        simp [this]
      · rw [beq_false_of_ne hij, Bool.or_false]
    rw [this]

theorem HT_ext (hp : Plan ks ops ms pl) {T T' : Nat → Bool} {j : Nat} (hj : j < ks.length) (hT : ∀ i, T' i = (T i || i == j)) (hlt : ∀ i, i < ks.length → T i = true → isEff ks i = true → isEff ks j = true → posn pl i < posn pl j) :
    HT ks pl Hh T' = if isEff ks j = true then Hh (posn pl j + 1) else HT ks pl Hh T := by
  unfold HT
  by_cases he : isEff ks j = true
  · rw [if_pos he]
    have := last_ext (fun i => T i && isEff ks i) (fun i => T' i && isEff ks i) j (ordr pl) hp.nodup (hp.mem j hj) (fun i hi => by
      rw [hT i]
      by_cases hij : i = j
      · subst hij; simp [he]
      · rw [beq_false_of_ne hij, Bool.or_false, Bool.or_false]) (fun i hi hq => by
        simp only [Bool.and_eq_true] at hq
        exact hlt i (lt_of_mem hp hi) hq.1 hq.2 he)
    rw [this]
  · rw [if_neg he]
    have : (ordr pl).filter (fun i => T' i && isEff ks i) = (ordr pl).filter fun i => T i && isEff ks i := by
      refine List.filter_congr fun i hi => ?_
      rw [hT i]
      by_cases hij : i = j
      · subst hij
        have : isEff ks i = false := by simpa using he
        simp [this]
      · rw [beq_false_of_ne hij, Bool.or_false]
    rw [this]

end
end Go.Proofs.Ytlboioplemlneaa.K
