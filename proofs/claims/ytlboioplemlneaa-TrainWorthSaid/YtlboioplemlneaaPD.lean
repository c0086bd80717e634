/- Dictionaries of what comes again: the program's heap of pieces is a heap. -/
import Derived.Test.YtlboioplemlneaaPB
import Derived.Test.YtlboioplemlneaaPC
set_option maxRecDepth 100000
set_option maxHeartbeats 2000000
set_option linter.unusedVariables false
set_option linter.unusedSimpArgs false
set_option linter.unusedSectionVars false
namespace Go.Proofs.Ytlboioplemlneaa.K
open Go Go.Proofs
theorem wrz_get {cs v : List Value} {off : Nat} (h : off + v.length ≤ cs.length) (j : Nat) : (wr cs off v)[j]? = if off ≤ j ∧ j < off + v.length then v[j - off]? else cs[j]? := by
  unfold wr
  have h1 : (cs.take off).length = off := by rw [List.length_take]; omega
  by_cases a : j < off
  · rw [if_neg (by omega), List.append_assoc, List.getElem?_append_left (by omega), List.getElem?_take, if_pos a]
  · rw [List.append_assoc, List.getElem?_append_right (by omega), h1]
    by_cases b : j < off + v.length
    · rw [if_pos (by omega), List.getElem?_append_left (by omega)]
    · rw [if_neg (by omega), List.getElem?_append_right (by omega), List.getElem?_drop]; congr 1; omega
theorem wrz_len {cs v : List Value} {off : Nat} (h : off + v.length ≤ cs.length) : (wr cs off v).length = cs.length := by
  unfold wr; simp; omega
theorem rdz_some {c v : List Value} {off n : Nat} (hv : v.length = n) : rd c off n = some v ↔ off + n ≤ c.length ∧ ∀ j, j < n → c[off + j]? = v[j]? := by
  unfold rd
  constructor
  · intro h
    split at h
    · rename_i hl
      simp only [Option.some.injEq] at h
      subst h
      refine ⟨hl, fun j hj => ?_⟩
      rw [List.getElem?_take, if_pos hj, List.getElem?_drop]
    · cases h
  · rintro ⟨h1, h2⟩
    rw [if_pos h1]
    congr 1
    apply List.ext_getElem?
    intro j
    rw [List.getElem?_take]
    split
    · rename_i hj
      rw [List.getElem?_drop]; exact h2 j hj
    · rename_i hj
      rw [List.getElem?_eq_none (by omega)]
theorem rdz_wr {cs v w : List Value} {i k z : Nat} (hz : v.length = z) (hw : w.length = z) (h : i * z + z ≤ cs.length) (hk : k ≠ i → rd cs (k * z) z = some w) (hki : k = i → w = v) : rd (wr cs (i * z) v) (k * z) z = some w := by
  rw [rdz_some hw, wrz_len (by omega)]
  by_cases e : k = i
  · rw [hki e, e]
    refine ⟨h, fun j hj => ?_⟩
    rw [wrz_get (by omega), if_pos (by omega), Nat.add_sub_cancel_left]
  · have h2 := (rdz_some hw).1 (hk e)
    refine ⟨h2.1, fun j hj => ?_⟩
    rw [wrz_get (by omega), ← h2.2 j hj]
    have : ¬ (i * z ≤ k * z + j ∧ k * z + j < i * z + v.length) := by
      intro hc
      rw [hz] at hc
      rcases Nat.lt_trichotomy k i with hlt | heq | hgt
      · have : k * z + z ≤ i * z := by rw [← Nat.succ_mul]; exact Nat.mul_le_mul_right _ hlt
        omega
      · exact e heq
      · have : i * z + z ≤ k * z := by rw [← Nat.succ_mul]; exact Nat.mul_le_mul_right _ hgt
        omega
    rw [if_neg this]
theorem slc0z {S : Sys} {H : Heap} {K : Kv} {b o n c z : Nat} {cs : List Value} {t : TypeId} {rw : Bool} {m : Nat} (hc : c = capx ∨ n ≤ c) (hg : H.get b = .cells cs t rw) (hm : m ≤ n) :
    run S (.slc t z (.c (.slice (some ⟨b, o, none⟩) n c)) none (some (.c (.int .i64 m)))) [] H K = K (.slice (some ⟨b, o, none⟩) m (if c = capx then capx else c)) H := by
  show oT ((kSlc H t z (.slice (some ⟨b, o, none⟩) n c) 0 (some (m : Int))).map (·, H)) K = _
  simp only [kSlc, hg, if_true, Option.getD_some, addOff]
  by_cases h : c = capx
  · subst h
    simp [hm]
  · have h2 : n ≤ c := hc.resolve_left h
    have h3 : (0 : Int) ≤ m ∧ (m : Int) ≤ c := by omega
    simp [h]
    split
    · rename_i h0
      simp
    · rename_i h0; omega
/-- a piece: a text, what it was worth, where it is -/
structure Pc where
  s : Bytes
  w : Nat
  o : Nat
  deriving Inhabited
def ltP (x y : Pc) : Bool := decide (y.w < x.w) || (decide (x.w = y.w) && decide (x.o < y.o))
theorem ltP_ord : Ord ltP := by
  refine ⟨fun x y h => ?_, fun x y z h1 h2 => ?_⟩
  · simp only [ltP, Bool.or_eq_true, Bool.and_eq_true, decide_eq_true_eq, Bool.or_eq_false_iff, Bool.and_eq_false_iff, decide_eq_false_iff_not] at *; omega
  · simp only [ltP, Bool.or_eq_false_iff, Bool.and_eq_false_iff, decide_eq_false_iff_not] at *; omega
def pcC (x : Pc) : List Value := [.string (ofL x.s), .int .i64 x.w, .int .i64 x.o]
theorem pcC_len (x : Pc) : (pcC x).length = 3 := rfl
def a0P (p : Nat) : Value := .iface 109 (.pointer (some ⟨p, 0, none⟩))
def elP (x : Pc) : Value := .iface 112 (.agg (pcC x).toArray)
/-- the pieces that lie in the heap at p -/
structure Qp (N : Nat → Prop) (H0 : Heap) (p : Nat) (H : Heap) (l : Array Pc) : Prop where
  kp : ∀ k, N k → k < H.next ∧ H.get k = H0.get k
  hp : ¬ N p
  sm : l.size ≤ 1000000
  v : ∃ b c cs, ¬ N b ∧ H.get p = .cells [.slice (some ⟨b, 0, none⟩) l.size c] 145 true ∧ (c = capx ∨ (c = 0 ∧ l.size = 0)) ∧ H.get b = .cells cs 112 true ∧ l.size * 3 ≤ cs.length ∧ ∀ (i : Nat) x, l[i]? = some x → rd cs (i * 3) 3 = some (pcC x)
section
variable {N : Nat → Prop} {H0 H : Heap} {p : Nat} {l : Array Pc}
theorem Qp.step {H' : Heap} (h : Qp N H0 p H l) (hk : Kp H.next H H') : Qp N H0 p H' l := by
  obtain ⟨h1, h2, h3, ⟨b, c, cs, q1, q2, q3, q4, q5, q6⟩⟩ := h
  exact ⟨fun k hk' => ⟨Nat.lt_of_lt_of_le (h1 k hk').1 hk.1, (hk.2 k (h1 k hk').1).trans (h1 k hk').2⟩, h2, h3, ⟨b, c, cs, q1, (hk.2 p (lt_cells q2)).trans q2, q3, (hk.2 b (lt_cells q4)).trans q4, q5, q6⟩⟩
/-- what is kept is looked at anew -/
theorem Qp.re {M : Nat → Prop} {H' : Heap} (h : Qp N H0 p H l) (hn : H.next ≤ H'.next) (hk : ∀ k, ¬ N k → k < H.next → H'.get k = H.get k) (hM : ∀ k, M k → k < H'.next ∧ (N k ∨ H.next ≤ k)) : Qp M H' p H' l := by
  obtain ⟨h1, h2, h3, ⟨b, c, cs, q1, q2, q3, q4, q5, q6⟩⟩ := h
  have lp := lt_cells q2
  have lb := lt_cells q4
  exact ⟨fun k hk => ⟨(hM k hk).1, rfl⟩, fun hm => by rcases (hM p hm).2 with h | h; exact h2 h; omega, h3, ⟨b, c, cs, fun hm => by rcases (hM b hm).2 with h | h; exact q1 h; omega, (hk p h2 lp).trans q2, q3, (hk b q1 lb).trans q4, q5, q6⟩⟩
theorem Qp.sub {M : Nat → Prop} (h : Qp N H0 p H l) (hM : ∀ k, M k → N k) : Qp M H0 p H l := by
  obtain ⟨h1, h2, h3, ⟨b, c, cs, q1, q2⟩⟩ := h
  exact ⟨fun k hk => h1 k (hM k hk), fun hm => h2 (hM _ hm), h3, ⟨b, c, cs, fun hm => q1 (hM _ hm), q2⟩⟩
theorem plen_q (h : Qp N H0 p H l) (K : Kv) (hK : K (.int .i64 l.size) H) : run S (.inv (.c (a0P p)) "Len" []) [] H K := by
  obtain ⟨b, c, cs, q1, q2, q3, q4, q5, q6⟩ := h.v
  unfold a0P
  rw [inv_ld (f := 112) (x := .slice (some ⟨b, 0, none⟩) l.size c) rfl (by simp [q2])]
  refine w112 rfl rfl _ ?_
  simpa [s112] using hK
theorem pc_cells {cs : List Value} {i : Nat} {x : Pc} (h : rd cs (i * 3) 3 = some (pcC x)) : cs[i * 3]? = some (.string (ofL x.s)) ∧ cs[i * 3 + 1]? = some (.int .i64 x.w) ∧ cs[i * 3 + 2]? = some (.int .i64 x.o) := by
  have := ((rdz_some (pcC_len x)).1 h).2
  exact ⟨this 0 (by omega), this 1 (by omega), this 2 (by omega)⟩
theorem pless_q {i j : Nat} (h : Qp N H0 p H l) (hi : i < l.size) (hj : j < l.size) (K : Kv) (hK : ∀ H', Qp N H0 p H' l → K (.bool (ltP (ix l i) (ix l j))) H') : run S (.inv (.c (a0P p)) "Less" [.c (.int .i64 i), .c (.int .i64 j)]) [] H K := by
  obtain ⟨b, c, cs, q1, q2, q3, q4, q5, q6⟩ := h.v
  unfold a0P
  rw [inv_ld (f := 163) (x := .slice (some ⟨b, 0, none⟩) l.size c) rfl (by simp [q2])]
  obtain ⟨_, ci1, ci2⟩ := pc_cells (q6 i _ (ix_get hi))
  obtain ⟨_, cj1, cj2⟩ := pc_cells (q6 j _ (ix_get hj))
  generalize ix l i = x at *
  generalize ix l j = y at *
  have hi' : (i : Int) < l.size := by omega
  have hj' : (j : Int) < l.size := by omega
  refine w163 rfl rfl _ _ _ ?_
  simp [s163, hi, hj, hi', hj', addOff, q4, ci1, ci2, cj1, cj2, Env.ev]
  refine (Compare_t _ _).mono ?_
  rintro v H1 ⟨rfl, rfl⟩
  simp [addOff, q4, ci2, cj2, ck, veq, veq1, kop_ld]
  refine (Compare_t _ _).mono ?_
  rintro v H1 ⟨rfl, rfl⟩
  simp [kFill, evPs, isTup, cellsL, wr]
  refine (Or_t get_last).mono ?_
  rintro v H1 ⟨rfl, rfl⟩
  have hb : kBin .lss (.int .i64 (if cmpI y.w x.w = 0 then cmpI x.o y.o else cmpI y.w x.w)) (.int .i64 0) = some (.bool (ltP x y)) := by
    show some (Value.bool (decide _)) = _
    congr 2
    rw [Bool.eq_iff_iff, decide_eq_true_eq]
    simp only [ltP, cmpI, Bool.or_eq_true, Bool.and_eq_true, decide_eq_true_eq]
    split <;> split <;> omega
  have := hK _ (h.step (Kp.push (b := .cells [.int .i64 (cmpI y.w x.w), .int .i64 (cmpI x.o y.o)] 3 true) (Nat.le_refl _)))
  rw [hb]
  simp
  exact this
theorem kLdn_rd {H : Heap} {b o n : Nat} {cs v : List Value} {t : TypeId} {rw : Bool} (hg : H.get b = .cells cs t rw) (h : rd cs o n = some v) : kLdn H n (.pointer (some ⟨b, o, none⟩)) = some (.agg v.toArray) := by
  simp [kLdn, hg, h]
theorem kStn_wr {H : Heap} {b o n : Nat} {cs v : List Value} {t : TypeId} (hg : H.get b = .cells cs t true) (h : o + n ≤ cs.length) (hv : v.length = n) : kStn H n (.pointer (some ⟨b, o, none⟩)) (.agg v.toArray) = some (H.put b (.cells (wr cs o v) t true)) := by
  simp [kStn, hg, h, hv]
theorem pswap_q {i j : Nat} (hi : i < l.size) (hj : j < l.size) (h : Qp N H0 p H l) (K : Kv) (hK : ∀ v H', Qp N H0 p H' (l.swap i j hi hj) → K v H') : run S (.inv (.c (a0P p)) "Swap" [.c (.int .i64 i), .c (.int .i64 j)]) [] H K := by
  obtain ⟨b, c, cs, q1, q2, q3, q4, q5, q6⟩ := h.v
  unfold a0P
  rw [inv_ld (f := 166) (x := .slice (some ⟨b, 0, none⟩) l.size c) rfl (by simp [q2])]
  have ci := q6 i _ (ix_get hi)
  have cj := q6 j _ (ix_get hj)
  have hic := ((rdz_some (pcC_len _)).1 ci).1
  have hjc := ((rdz_some (pcC_len _)).1 cj).1
  have hlt := lt_cells q4
  have hi' : (i : Int) < l.size := by omega
  have hj' : (j : Int) < l.size := by omega
  have l1 := kLdn_rd (H := H) q4 ci
  have l2 := kLdn_rd (H := H) q4 cj
  have s1 := kStn_wr (H := H) (v := pcC (ix l j)) q4 hic rfl
  have s2 := kStn_wr (H := H.put b (.cells (wr cs (i * 3) (pcC (ix l j))) 112 true)) (o := j * 3) (n := 3) (v := pcC (ix l i)) (get_put_eq hlt) (by rw [wrz_len (by rw [pcC_len]; exact hic)]; exact hjc) rfl
  rw [put_put] at s2
  have hn : Qp N H0 p (H.put b (.cells (wr (wr cs (i * 3) (pcC (ix l j))) (j * 3) (pcC (ix l i))) 112 true)) (l.swap i j hi hj) := by
    have hpb : p ≠ b := by
      rintro rfl
      rw [q2] at q4; simp at q4
    have hw1 := wrz_len (cs := cs) (v := pcC (ix l j)) (off := i * 3) (by rw [pcC_len]; exact hic)
    have hw2 := wrz_len (cs := wr cs (i * 3) (pcC (ix l j))) (v := pcC (ix l i)) (off := j * 3) (by rw [pcC_len, hw1]; exact hjc)
    refine ⟨fun k hk => ⟨by rw [next_put]; exact (h.kp k hk).1, (get_put_ne (by rintro rfl; exact q1 hk)).trans (h.kp k hk).2⟩, h.hp, by rw [Array.size_swap]; exact h.sm, ⟨b, c, _, q1, by rw [Array.size_swap, get_put_ne hpb]; exact q2, by rw [Array.size_swap]; exact q3, get_put_eq hlt, by rw [Array.size_swap, hw2, hw1]; exact q5, fun k x hx => ?_⟩⟩
    have hkl : k < l.size := by have := (Array.getElem?_eq_some_iff.1 hx).1; rw [Array.size_swap] at this; exact this
    have hx' := ix_of hx
    rw [ix_swap] at hx'
    refine rdz_wr rfl rfl (by rw [hw1]; exact hjc) (fun hkj => ?_) (fun e => ?_)
    · refine rdz_wr rfl rfl hic (fun hki => ?_) (fun e => ?_)
      · rw [if_neg hki, if_neg hkj] at hx'
        rw [← hx']; exact q6 k _ (ix_get hkl)
      · rw [if_pos e] at hx'
        rw [hx']
    · by_cases e2 : k = i
      · rw [if_pos e2] at hx'
        rw [← hx', ← e2, e]
      · rw [if_neg e2, if_pos e] at hx'
        rw [hx']
  refine w166 rfl rfl _ _ _ ?_
  simp [s166, hi, hj, hi', hj', addOff, Env.ev, l1, l2, s1]
  rw [s2]
  simp
  exact hK _ _ hn
end
end Go.Proofs.Ytlboioplemlneaa.K
/- Dictionaries of what comes again: the heap of pieces, by Push and Pop, too. -/
set_option maxRecDepth 100000
set_option maxHeartbeats 4000000
set_option linter.unusedVariables false
set_option linter.unusedSimpArgs false
set_option linter.unusedSectionVars false
namespace Go.Proofs.Ytlboioplemlneaa.K
open Go Go.Proofs
section
variable {N : Nat → Prop} {H0 H : Heap} {p : Nat} {l : Array Pc}
theorem ppop_q {x : Pc} (h : Qp N H0 p H (l.push x)) (K : Kv) (hK : ∀ H', Qp N H0 p H' l → True → K (elP x) H') : run S (.inv (.c (a0P p)) "Pop" []) [] H K := by
  obtain ⟨b, c, cs, q1, q2, q3, q4, q5, q6⟩ := h.v
  rw [Array.size_push] at q2 q3 q5
  have hc : c = capx := by omega
  subst hc
  have hsm := h.sm
  rw [Array.size_push] at hsm
  unfold a0P
  rw [inv_as (f := 164) rfl]
  have cx := q6 l.size x (by rw [Array.getElem?_push, if_pos rfl])
  have hlt := lt_cells q2
  have hltb := lt_cells q4
  have hp := h.hp
  have hpb : b ≠ p := by
    rintro rfl
    rw [q2] at q4; simp at q4
  have w1' : IntKind.i64.wrap ((l.size : Int) + 1 - 1) = (l.size : Int) := by rw [wi (by omega) (by omega)]; omega
  have w2 : IntKind.i64.wrap (l.size : Int) = (l.size : Int) := wi (by omega) (by omega)
  have l1 := kLdn_rd (H := H) q4 cx
  obtain ⟨T, hT⟩ : ∃ T, T = H.next := ⟨_, rfl⟩
  obtain ⟨H1, hH1⟩ : ∃ H1, H1 = H.push (.cells (pcC x) 112 true) := ⟨_, rfl⟩
  have hk1 : Kp H.next H H1 := hH1 ▸ Kp.push (Nat.le_refl _)
  have g1 : H1.get p = .cells [.slice (some ⟨b, 0, none⟩) (l.size + 1) capx] 145 true := (hk1.2 p hlt).trans q2
  have g2 : H1.get b = .cells cs 112 true := (hk1.2 b hltb).trans q4
  have gT : H1.get T = .cells (pcC x) 112 true := by rw [hH1, hT]; exact get_last
  have hst : kStn (H.push (.cells [.string (bs []), .int .i64 0, .int .i64 0] 112 true)) 3 (.pointer (some ⟨T, 0, none⟩)) (.agg (pcC x).toArray) = some H1 := by
    have gl := get_last (H := H) (b := .cells [.string (bs []), .int .i64 0, .int .i64 0] 112 true)
    rw [← hT] at gl
    rw [kStn_wr (v := pcC x) (n := 3) (o := 0) gl (by simp) rfl, hT, put_last, hH1]
    rfl
  have hsl := fun K => slc0z (S := S) (H := H1) (K := K) (o := 0) (z := 3) (n := l.size + 1) (m := l.size) (.inl rfl) g2 (by omega)
  simp only [if_true] at hsl
  have hlt1 : p < H1.next := by rw [hH1]; simp; omega
  have hst2 : kSt H1 (.pointer (some ⟨p, 0, none⟩)) (.slice (some ⟨b, 0, none⟩) l.size capx) = some (H1.put p (.cells [.slice (some ⟨b, 0, none⟩) l.size capx] 145 true)) := by
    simp [kSt, g1, oneC]
  have hn : Qp N H0 p (H1.put p (.cells [.slice (some ⟨b, 0, none⟩) l.size capx] 145 true)) l := by
    refine ⟨fun k hk => ⟨by rw [next_put]; exact Nat.lt_of_lt_of_le (h.kp k hk).1 hk1.1, by rw [get_put_ne (by rintro rfl; exact hp hk), hk1.2 k (h.kp k hk).1]; exact (h.kp k hk).2⟩, h.hp, by omega, ⟨b, capx, cs, q1, get_put_eq hlt1, .inl rfl, (get_put_ne hpb).trans g2, by omega, fun k y hy => q6 k y ?_⟩⟩
    have := (Array.getElem?_eq_some_iff.1 hy).1
    rw [Array.getElem?_push, if_neg (by omega)]; exact hy
  have gT2 : (H1.put p (.cells [.slice (some ⟨b, 0, none⟩) l.size capx] 145 true)).get T = .cells (pcC x) 112 true := by rw [get_put_ne (by omega)]; exact gT
  have l2 := kLdn_rd (H := H1.put p (.cells [.slice (some ⟨b, 0, none⟩) l.size capx] 145 true)) (o := 0) (n := 3) (v := pcC x) gT2 ((rdz_some (pcC_len x)).2 ⟨by simp [pcC], fun j hj => by simp⟩)
  refine w164 rfl rfl _ ?_
  have hx0 : (l.size : Int) < l.size + 1 := by omega
  have hx1 : (0 : Int) ≤ l.size := by omega
  simp [s164, q2, w1', w2, addOff, hx0, l1]
  rw [← hT, hst]
  simp [g1, addOff]
  rw [hsl]
  simp only [run_nck, run_st, hst2, oH_some, run_ldn, l2, oV_some]
  have : run S (.mki 112 (.c (.agg (pcC x).toArray))) [] (H1.put p (.cells [.slice (some ⟨b, 0, none⟩) l.size capx] 145 true)) K = K (elP x) (H1.put p (.cells [.slice (some ⟨b, 0, none⟩) l.size capx] 145 true)) := rfl
  first | exact hK _ hn trivial | (rw [this]; exact hK _ hn trivial) | (simp; exact hK _ hn trivial)
theorem papp_q {x : Pc} (h : Qp N H0 p H l) (hs : l.size < 1000000) : ∃ b c v' H2 H3, H.get p = .cells [.slice (some ⟨b, 0, none⟩) l.size c] 145 true ∧ kRow (H.push (.cells (pcC x) 112 true)) 112 3 1 (some ⟨H.next, 0, none⟩) = some (pcC x) ∧
    (H.push (.cells (pcC x) 112 true)).get p = .cells [.slice (some ⟨b, 0, none⟩) l.size c] 145 true ∧
    kApp (H.push (.cells (pcC x) 112 true)) 112 3 32 (.slice (some ⟨b, 0, none⟩) l.size c) 1 (pcC x) = some (v', H2) ∧ kSt H2 (.pointer (some ⟨p, 0, none⟩)) v' = some H3 ∧ Qp N H0 p H3 (l.push x) := by
  obtain ⟨b, c, cs, q1, q2, q3, q4, q5, q6⟩ := h.v
  have hp := h.hp
  have hkp := h.kp
  have hltp := lt_cells q2
  have hltb := lt_cells q4
  have hpb : p ≠ b := by
    rintro rfl
    rw [q2] at q4; simp at q4
  obtain ⟨H1, hH1⟩ : ∃ H1, H1 = H.push (.cells (pcC x) 112 true) := ⟨_, rfl⟩
  have hk1 : Kp H.next H H1 := hH1 ▸ Kp.push (Nat.le_refl _)
  have g1 : H1.get b = .cells cs 112 true := (hk1.2 b hltb).trans q4
  have hrd : rd cs 0 (l.size * 3) = some (cs.take (l.size * 3)) := by
    unfold rd; rw [if_pos (by omega), List.drop_zero]
  have hap : ∃ H2, kApp H1 112 3 32 (.slice (some ⟨b, 0, none⟩) l.size c) 1 (pcC x) = some (.slice (some ⟨H1.next, 0, none⟩) (l.size + 1) capx, H2) ∧ H2.next = H1.next + 1 ∧ H2.get H1.next = .cells (cs.take (l.size * 3) ++ pcC x) 112 true ∧ (∀ k, k < H1.next → k ≠ b → H2.get k = H1.get k) := by
    have hr : (l.size + 1) * 32 ≤ roomMax ∧ l.size + 1 ≤ roomMax := by unfold roomMax; omega
    rcases q3 with rfl | ⟨rfl, h0⟩
    · refine ⟨(H1.put b .dead).push (.cells (cs.take (l.size * 3) ++ pcC x) 112 true), ?_, by simp [next_put], ?_, fun k h1 h2 => ?_⟩
      · simp only [kApp, g1, hr, and_self, if_true, hrd, Option.map_some, Nat.one_ne_zero, if_false]
      · have := get_last (H := H1.put b .dead) (b := .cells (cs.take (l.size * 3) ++ pcC x) 112 true)
        rw [next_put] at this; exact this
      · rw [get_old (by rw [next_put]; exact h1), get_put_ne h2]
    · have hx0 : ¬ (0 : Nat) = capx := by decide
      have hx1 : ¬ l.size + 1 ≤ 0 := by omega
      refine ⟨H1.push (.cells (cs.take (l.size * 3) ++ pcC x) 112 true), ?_, by simp, get_last, fun k h1 h2 => get_old h1⟩
      simp only [kApp, g1, hr, and_self, if_true, hrd, Option.map_some, hx0, hx1, if_false]
  obtain ⟨H2, ha, hn2, hg2, hold⟩ := hap
  have hk12 := hk1.1
  have hgp : H2.get p = .cells [.slice (some ⟨b, 0, none⟩) l.size c] 145 true := by
    rw [hold p (by omega) hpb, hk1.2 p hltp]; exact q2
  have hn : Qp N H0 p (H2.put p (.cells [.slice (some ⟨H1.next, 0, none⟩) (l.size + 1) capx] 145 true)) (l.push x) := by
    refine ⟨fun k hk => ⟨by rw [next_put]; have := (hkp k hk).1; omega, ?_⟩, hp, by rw [Array.size_push]; omega, ⟨H1.next, capx, _, fun hm => by have := (hkp _ hm).1; omega, by rw [Array.size_push]; exact get_put_eq (by omega), .inl rfl, (get_put_ne (by omega)).trans hg2, by rw [Array.size_push]; simp [pcC_len]; omega, fun k y hy => ?_⟩⟩
    · rw [get_put_ne (by rintro rfl; exact hp hk), hold k (by have := (hkp k hk).1; omega) (by rintro rfl; exact q1 hk), hk1.2 k (hkp k hk).1]; exact (hkp k hk).2
    · rw [Array.getElem?_push] at hy
      have hl : (cs.take (l.size * 3)).length = l.size * 3 := by simp; omega
      rw [rdz_some (pcC_len y), List.length_append, hl, pcC_len]
      by_cases hks : k = l.size
      · subst hks
        rw [if_pos rfl] at hy
        cases hy
        refine ⟨Nat.le_refl _, fun j hj => ?_⟩
        rw [List.getElem?_append_right (by omega), hl, Nat.add_sub_cancel_left]
      · rw [if_neg hks] at hy
        have hkl := (Array.getElem?_eq_some_iff.1 hy).1
        have hkk := (rdz_some (pcC_len y)).1 (q6 k y hy)
        refine ⟨by omega, fun j hj => ?_⟩
        rw [List.getElem?_append_left (by omega), List.getElem?_take, if_pos (by omega)]
        exact hkk.2 j hj
  refine ⟨b, c, _, H2, _, q2, ?_, ?_, hH1 ▸ ha, ?_, hn⟩
  · simp only [kRow, get_last, if_true]
    exact (rdz_some (pcC_len x)).2 ⟨by simp [pcC_len], fun j hj => by simp⟩
  · rw [← hH1, hk1.2 p hltp]; exact q2
  · simp [kSt, hgp, oneC, hH1]
theorem ppush_q {x : Pc} (h : Qp N H0 p H l) (hs : l.size < 1000000) (K : Kv) (hK : ∀ v H', Qp N H0 p H' (l.push x) → K v H') : run S (.inv (.c (a0P p)) "Push" [.c (elP x)]) [] H K := by
  obtain ⟨H1, hH1⟩ : ∃ H1, H1 = H.push (.cells (pcC x) 112 true) := ⟨_, rfl⟩
  have h1 : Qp N H0 p H1 l := h.step (hH1 ▸ Kp.push (Nat.le_refl _))
  obtain ⟨b, c, v', H2, H3, q2, hrow, hq2, ha, hst, hn⟩ := papp_q (x := x) h1 hs
  obtain ⟨T, hT⟩ : ∃ T, T = H.next := ⟨_, rfl⟩
  have gT : H1.get T = .cells (pcC x) 112 true := by rw [hH1, hT]; exact get_last
  have hst0 : kStn (H.push (.cells [.string (bs []), .int .i64 0, .int .i64 0] 112 true)) 3 (.pointer (some ⟨T, 0, none⟩)) (.agg (pcC x).toArray) = some H1 := by
    have gl := get_last (H := H) (b := .cells [.string (bs []), .int .i64 0, .int .i64 0] 112 true)
    rw [← hT] at gl
    rw [kStn_wr (v := pcC x) (n := 3) (o := 0) gl (by simp) rfl, hT, put_last, hH1]
    rfl
  have l2 := kLdn_rd (H := H1) (o := 0) (n := 3) (v := pcC x) gT ((rdz_some (pcC_len x)).2 ⟨by simp [pcC], fun j hj => by simp⟩)
  unfold a0P elP
  rw [inv_as (f := 165) rfl]
  have htas : ∀ {K : Kv} {z : Value}, run S (.tas 112 z true (.c (.iface 112 (.agg (pcC x).toArray)))) [] H K = K (.tuple #[.agg (pcC x).toArray, .bool true]) H := fun {K z} => rfl
  refine w165 rfl rfl _ _ ?_
  have hfill : kFill [.string (bs []), .int .i64 0, .int .i64 0] [(0, 3, .agg (pcC x).toArray)] = some (pcC x) := by
    simp [kFill, isTup, cellsL, pcC, wr]
  simp [s165, Env.ev, htas]
  rw [← hT, hst0]
  simp [q2, l2, evPs, Env.ev, hfill, addOff]
  simp only [ck, kop_ld, kLd_p, hq2, hrow]
  simp [veq, veq1, hrow, ha, hst]
  exact hK _ _ hn
/-- the program's heap of pieces -/
theorem pieces_q : PQ2 ltP (a0P p) (Qp N H0 p) elP (fun _ _ => True) :=
  ⟨⟨fun H l h K hK => plen_q h K hK, fun H l i j h hi hj K hK => pless_q h hi hj K hK, fun H l i j hi hj h K hK => pswap_q hi hj h K hK, fun H l h => h.sm⟩, fun H l x h hx hs K hK => ppush_q h hs K hK, fun H l x h K hK => ppop_q h K hK⟩
end
end Go.Proofs.Ytlboioplemlneaa.K
/- Dictionaries of what comes again, walked: all pieces are laid in a heap. -/
set_option maxRecDepth 100000
set_option maxHeartbeats 4000000
set_option linter.unusedVariables false
set_option linter.unusedSimpArgs false
set_option linter.unusedSectionVars false
namespace Go.Proofs.Ytlboioplemlneaa.K
open Go Go.Proofs
/-- the pieces in order, with what each one is worth -/
def IsP (W : Bytes → Nat) (L : List Bytes) (l : Array Pc) : Prop := l.size = L.length ∧ ∀ (i : Nat) s, L[i]? = some s → l[i]? = some ⟨s, worthS W s, i⟩
theorem IsP.nil (W : Bytes → Nat) : IsP W [] #[] := ⟨rfl, fun i s h => by simp at h⟩
theorem IsP.push {W : Bytes → Nat} {L : List Bytes} {l : Array Pc} (h : IsP W L l) (s : Bytes) : IsP W (L ++ [s]) (l.push ⟨s, worthS W s, l.size⟩) :=
  ⟨by rw [Array.size_push, h.1]; simp, fun i t ht => by
    rw [Array.getElem?_push]
    by_cases e : i = l.size
    · rw [if_pos e]
      have hi : i = L.length := by rw [e, h.1]
      rw [hi, List.getElem?_append_right (Nat.le_refl _), Nat.sub_self] at ht
      simp at ht
      subst ht; rw [e]
    · rw [if_neg e]
      have hl : i < L.length := by
        have := (List.getElem?_eq_some_iff.1 ht).1
        simp at this; have := h.1; omega
      rw [List.getElem?_append_left hl] at ht
      exact h.2 i t ht⟩
def winsTo (r : Bytes) (k : Nat) : List Bytes := (List.range k).map fun i => winD r i (bestN r)
theorem winsTo_next (r : Bytes) (k : Nat) : winsTo r (k + 1) = winsTo r k ++ [winD r k (bestN r)] := by unfold winsTo; rw [List.range_succ, List.map_append]; rfl
theorem winsL_eq {r : Bytes} (h : 6 ≤ r.length) : winsL r = winsTo r (r.length - bestN r + 1) := by unfold winsL winsTo; rw [if_neg (by omega)]
theorem winsTo_len (r : Bytes) (k : Nat) : (winsTo r k).length = k := by simp [winsTo]
theorem winsL_len (r : Bytes) : (winsL r).length ≤ r.length := by
  unfold winsL
  split
  · simp
  · simp [bestN]; omega
theorem pcs_next {l : List Bytes} {i : Nat} {r : Bytes} (h : l[i]? = some r) : pcs (l.take (i + 1)) = pcs (l.take i) ++ winsL r := by
  unfold pcs
  rw [List.take_add_one, h, Option.toList_some, List.flatMap_append]; simp
theorem pcs_len {b : Nat} : ∀ {l : List Bytes}, (∀ r ∈ l, r.length ≤ b) → (pcs l).length ≤ l.length * b
  | [], _ => by simp [pcs]
  | r :: l, h => by
    have h1 := pcs_len (l := l) fun x hx => h x (by simp [hx])
    have h2 := winsL_len r
    have h3 := h r (by simp)
    unfold pcs at *
    simp only [List.flatMap_cons, List.length_append, List.length_cons, Nat.succ_mul]; omega
section
variable {H : Heap}
structure Cu2 (N : Nat → Prop) (H0 : Heap) (p mb : Nat) (W : Bytes → Nat) (r : Bytes) (L0 : List Bytes) (E : Fe) (d : Nat) (e : Fe) (H : Heap) (k : Nat) (l : Array Pc) : Prop where
  h2 : d = r.length - bestN r + 1 - k
  hk : k ≤ r.length - bestN r + 1
  q : Qp N H0 p H l
  ip : IsP W (L0 ++ winsTo r k) l
  e1 : e 1 = .map (some mb)
  e5 : e 5 = .pointer (some ⟨p, 0, none⟩)
  e7 : e 7 = .string (ofL r)
  e8 : e 8 = .int .i64 (bestN r)
  e9 : e 9 = .int .i64 k
  eo : e 13 = E 13 ∧ e 14 = E 14 ∧ e 15 = E 15
theorem cutIn_t {N : Nat → Prop} {H0 H : Heap} {p mb : Nat} {W : Bytes → Nat} {r : Bytes} {L0 : List Bytes} {E e : Fe} {Q : Kx} {l : Array Pc} (hM : MW H0 mb W) (hmb : N mb) (hW : ∀ g, W g ≤ 1000) (hr : 6 ≤ r.length) (hr2 : r.length ≤ 1000) (hL : L0.length ≤ 100000)
    (h : Cu2 N H0 p mb W r L0 E (r.length - bestN r + 1) e H 0 l)
    (hQ : ∀ e H l, Cu2 N H0 p mb W r L0 E 0 e H (r.length - bestN r + 1) l → Q (.exit 2) e H) : WL S b78_1 e H Q := by
  have hbn : bestN r ≤ r.length ∧ bestN r ≤ 16 := by unfold bestN; omega
  refine l78_1 S (fun d e H' => ∃ k l, Cu2 N H0 p mb W r L0 E d e H' k l) (r.length - bestN r + 1) ⟨0, l, h⟩ ?_
  rintro d e H1 ⟨k, l1, rfl, hk, hq, hip, e1, e5, e7, e8, e9, eo⟩
  obtain ⟨n, hn⟩ : ∃ n, n = bestN r := ⟨_, rfl⟩
  rw [← hn] at e8 hk hbn
  obtain ⟨j, hj⟩ : ∃ j, j = k + n := ⟨_, rfl⟩
  have w1 : IntKind.i64.wrap ((k : Int) + n) = (j : Int) := by rw [wi (by omega) (by omega)]; omega
  have w2 : IntKind.i64.wrap ((k : Int) + 1) = ((k + 1 : Nat) : Int) := by rw [wi (by omega) (by omega)]; omega
  by_cases h3 : j ≤ r.length
  · have h3' : (j : Int) ≤ r.length := by omega
    have h4 : k ≤ j := by omega
    have h4' : (k : Int) ≤ j := by omega
    have hw : (r.take j).drop k = winD r k n := by rw [hj]; exact win_eq r k n
    obtain ⟨s, hs⟩ : ∃ s, s = winD r k n := ⟨_, rfl⟩
    rw [← hs] at hw
    have hsl : s.length = n := by rw [hs]; exact winD_len (by omega)
    have hM1 : MW H1 mb W := hM.get (hq.kp mb hmb).2
    obtain ⟨b, c, cs, q1, q2, q3, q4, q5, q6⟩ := hq.v
    have hlt := lt_cells q2
    simp [s78_1, e1, e5, e7, e8, e9, w1, ofL_size, h3, h3', s_slice, h4, h4', hw, q2]
    refine (worth_t hM1 hW s (by omega)).mono ?_
    rintro v H2 ⟨hk2, rfl⟩
    have hq2 := hq.step hk2
    have hls : l1.size ≤ 200000 := by
      have := hip.1; rw [List.length_append, winsTo_len] at this; omega
    obtain ⟨x, hx⟩ : ∃ x : Pc, x = ⟨s, worthS W s, l1.size⟩ := ⟨_, rfl⟩
    obtain ⟨b', c', v', H3, H4, p2, hrow, hp2, ha, hst, hn4⟩ := papp_q (x := x) hq2 (by omega)
    have hbc : b' = b ∧ c' = c := by
      rw [hk2.2 p hlt, q2] at p2
      simp at p2
      exact ⟨p2.1.symm, p2.2.symm⟩
    obtain ⟨rfl, rfl⟩ := hbc
    have hfill0 : kFill [.string (bs []), .int .i64 0, .int .i64 0] [(0, 1, .string (ofL s)), (1, 1, .int .i64 (worthS W s)), (2, 1, .int .i64 (l1.size : Int))] = some (pcC x) := by
      rw [hx]; simp [kFill, isTup, cellsL, pcC, wr]
    have hfill : kFill [.string (bs []), .int .i64 0, .int .i64 0] [(0, 3, .agg (pcC x).toArray)] = some (pcC x) := by
      simp [kFill, isTup, cellsL, pcC, wr]
    simp only [ck, kop_ld, kLd_p, p2]
    have hlt2 : p < H2.next := lt_cells p2
    simp [veq, veq1, evPs, Env.ev, hfill0, hfill, kop_ld, hlt2, p2]
    rw [hrow]
    simp [ha, e5, e9, w2, hst]
    refine ⟨r.length - n + 1 - (k + 1), by omega, k + 1, _, by rw [← hn], by rw [← hn]; omega, hn4, ?_, by simp [e1], by simp [e5], by simp [e7], by simp [e8, hn], by simp, by simpa using eo⟩
    rw [winsTo_next, ← List.append_assoc, ← hn, ← hs, hx]
    exact hip.push s
  · have h3' : ¬ (j : Int) ≤ r.length := by omega
    have hke : k = r.length - bestN r + 1 := by omega
    simp [s78_1, e7, e8, e9, w1, ofL_size, h3, h3']
    rw [hke] at hip e9
    exact hQ _ _ l1 ⟨by omega, by omega, hq, hip, by simp [e1], by simp [e5], by simp [e7], by simp [e8, hn], by simp [e9], by simpa using eo⟩
structure Cu1 (N : Nat → Prop) (H0 : Heap) (p mb : Nat) (W : Bytes → Nat) (rs : List Bytes) (v0 : Value) (d : Nat) (e : Fe) (H : Heap) (i : Nat) (l : Array Pc) : Prop where
  h2 : d = rs.length - i
  hi : i ≤ rs.length
  q : Qp N H0 p H l
  ip : IsP W (pcs (rs.take i)) l
  e1 : e 1 = .map (some mb)
  e5 : e 5 = .pointer (some ⟨p, 0, none⟩)
  e13 : e 13 = v0
  e14 : e 14 = .int .i64 rs.length
  e15 : e 15 = .int .i64 i
/-- all pieces in a heap -/
def CutV (H : Heap) (W : Bytes → Nat) (rs : List Bytes) (v : Value) (H' : Heap) : Prop := ∃ p l l0, v = .pointer (some ⟨p, 0, none⟩) ∧ Qp (fun k => k < H.next) H p H' l ∧ IsP W (pcs rs) l0 ∧ l.Perm l0 ∧ HeapF ltP l 0 l.size
theorem cut_t {a : Option Addr} {c : Nat} {rs : List Bytes} {mb : Nat} {W : Bytes → Nat} (hl : Sv H a rs) (hM : MW H mb W) (hW : ∀ g, W g ≤ 1000) (hn : rs.length ≤ 64) (hsz : ∀ r ∈ rs, r.length ≤ 512) :
    Wf S 78 [.slice a rs.length c, .map (some mb)] H fun v H' => CutV H W rs v H' := by
  have hpl : ∀ i, (pcs (rs.take i)).length ≤ 32768 := fun i => by
    have h1 := pcs_len (b := 512) (l := rs.take i) fun r hr => hsz r (List.mem_of_mem_take hr)
    have h2 : (rs.take i).length * 512 ≤ 64 * 512 := Nat.mul_le_mul_right _ (by rw [List.length_take]; omega)
    omega
  have hmb := hM.lt
  refine w78 rfl rfl _ _ ?_
  obtain ⟨H1, hH1⟩ : ∃ H1, H1 = H.push (.cells [] 112 true) := ⟨_, rfl⟩
  obtain ⟨H2, hH2⟩ : ∃ H2, H2 = H1.push (.cells [.slice (some ⟨H.next, 0, none⟩) 0 0] 145 true) := ⟨_, rfl⟩
  have hn1 : H1.next = H.next + 1 := by rw [hH1]; simp
  have hk2 : Kp H.next H H2 := by
    rw [hH2, hH1]; exact (Kp.push (Nat.le_refl _)).trans (Kp.push (by simp))
  have hq0 : Qp (fun k => k < H.next) H (H.next + 1) H2 #[] := by
    refine ⟨fun k hk => ⟨Nat.lt_of_lt_of_le hk hk2.1, hk2.2 k hk⟩, by show ¬ _ < _; omega, by simp, ⟨H.next, 0, [], by show ¬ _ < _; omega, ?_, .inr ⟨rfl, rfl⟩, ?_, by simp, fun i x h => by simp at h⟩⟩
    · rw [hH2, ← hn1]; exact get_last
    · rw [hH2, get_old (by omega), hH1]; exact get_last
  simp [s78, kFill, evPs, isTup, cellsL]
  rw [← hH1, ← hH2]
  refine l78_0 S (fun d e H' => ∃ i l, Cu1 (fun k => k < H.next) H (H.next + 1) mb W rs (.slice a rs.length c) d e H' i l) rs.length ⟨0, #[], by omega, by omega, hq0, by simpa [pcs] using IsP.nil W, by simp, by simp, by simp, by simp, by simp⟩ ?_
  rintro d e H3 ⟨i, l, rfl, hi, hq, hip, e1, e5, e13, e14, e15⟩
  by_cases h3 : i < rs.length
  · have hk3 : Kp H.next H H3 := ⟨by have := (hq.kp (H.next - 1) (by show _ < _; omega)).1; omega, fun k hk => (hq.kp k hk).2⟩
    obtain ⟨b, o, cs, rw', rfl, hg, hcs⟩ := (hl.kp hk3) (by omega)
    obtain ⟨r, hr⟩ : ∃ r, rs[i]? = some r := ⟨_, List.getElem?_eq_getElem h3⟩
    have hcr := hcs i r hr
    have h3' : (i : Int) < rs.length := by omega
    have hrl := hsz r (List.mem_of_getElem? hr)
    have w2 : IntKind.i64.wrap ((i : Int) + 1) = ((i + 1 : Nat) : Int) := by rw [wi (by omega) (by omega)]; omega
    have hpn := pcs_next hr
    by_cases h6 : 6 ≤ r.length
    · have h6' : ¬ (r.length : Int) < 6 := by omega
      have h6'' : ¬ r.length < 6 := by omega
      obtain ⟨n, hn'⟩ : ∃ n, n = bestN r := ⟨_, rfl⟩
      have hmn : min (16 : Int) r.length = (n : Int) := by rw [hn']; unfold bestN; omega
      simp [s78_0, e1, e5, e13, e14, e15, h3, h3', addOff, hg, hcr, ofL_size, h6', h6'', hmn]
      refine cutIn_t (N := fun k => k < H.next) (H0 := H) (p := H.next + 1) (mb := mb) (W := W) (r := r) (L0 := pcs (rs.take i)) (E := e) (l := l) hM hmb hW h6 (by omega) (by have := hpl i; omega)
        ⟨by omega, by omega, hq, by simpa [winsTo] using hip, by simp [e1], by simp [e5], by simp, by simp [hn'], by simp, by simp⟩ ?_
      rintro e' H4 l4 ⟨_, _, q4, ip4, f1, f5, f7, f8, f9, f13, f14, f15⟩
      rw [e15] at f15
      simp [f15, w2]
      rw [← winsL_eq h6, ← hpn] at ip4
      exact ⟨rs.length - (i + 1), by omega, i + 1, l4, rfl, by omega, q4, ip4, by simp [f1], by simp [f5], by simp [f13, e13], by simp [f14, e14], by simp⟩
    · have h6' : (r.length : Int) < 6 := by omega
      have h6'' : r.length < 6 := by omega
      have hw0 : winsL r = [] := by unfold winsL; rw [if_pos h6'']
      rw [hw0, List.append_nil] at hpn
      simp [s78_0, e1, e5, e13, e14, e15, h3, h3', addOff, hg, hcr, ofL_size, h6', h6'', w2]
      exact ⟨rs.length - (i + 1), by omega, i + 1, l, rfl, by omega, hq, by rw [hpn]; exact hip, by simp [e1], by simp [e5], by simp [e13], by simp [e14], by simp⟩
  · obtain rfl : i = rs.length := by omega
    rw [List.take_length] at hip
    have hmki : ∀ {K : Kv}, run S (.mki 109 (.c (.pointer (some ⟨H.next + 1, 0, none⟩)))) [] H3 K = K (a0P (H.next + 1)) H3 := fun {K} => rfl
    simp [s78_0, e5, e14, e15]
    rw [hmki]
    refine (Init_t (pieces_q (N := fun k => k < H.next) (H0 := H)).pq ltP_ord hq).mono ?_
    rintro v H4 ⟨l4, q4, p4, f4⟩
    try simp
    have hs4 : l4.size = l.size := by
      have := (Array.perm_iff_toList_perm.1 p4).length_eq
      simpa using this
    exact ⟨H.next + 1, l4, l, rfl, q4, hip, p4, by rw [hs4]; exact f4⟩
end
end Go.Proofs.Ytlboioplemlneaa.K
