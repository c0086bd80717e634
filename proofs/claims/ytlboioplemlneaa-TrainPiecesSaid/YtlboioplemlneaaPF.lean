/- Dictionaries of what comes again, walked: the dictionary, and what a text is worth. -/
import Derived.Test.YtlboioplemlneaaPE
set_option maxRecDepth 100000
set_option maxHeartbeats 4000000
set_option linter.unusedVariables false
set_option linter.unusedSimpArgs false
set_option linter.unusedSectionVars false
namespace Go.Proofs.Ytlboioplemlneaa.K
open Go Go.Proofs
section
variable {H : Heap}
theorem strs_set (l : List Bytes) (i : Nat) (x : Bytes) : (strs l).set i (.string (ofL x)) = strs (l.set i x) := by simp [strs, encS]
/-- k at each end have changed places -/
def RevTo (L M : List Bytes) (k : Nat) : Prop := M.length = L.length ∧ ∀ i, i < L.length → M[i]? = if i < k ∨ L.length - k ≤ i then L[L.length - 1 - i]? else L[i]?
structure RvI (H0 : Heap) (b : Nat) (L : List Bytes) (d : Nat) (e : Fe) (H : Heap) (k : Nat) (M : List Bytes) : Prop where
  h2 : d = L.length - k
  hk : k ≤ L.length
  rv : RevTo L M k
  nx : H.next = H0.next
  kp : ∀ j, j ≠ b → H.get j = H0.get j
  g : H.get b = .cells (strs M) 9 true
  e0 : e 0 = .slice (some ⟨b, 0, none⟩) L.length capx
  e2 : e 2 = .int .i64 k
  e3 : e 3 = .int .i64 ((L.length : Int) - 1 - k)
theorem Reverse_t {v : Value} {L : List Bytes} {ob : Option Nat} (hL : L.length ≤ 100000) (h : OutS H v L ob) :
    Wf S 81 [v] H fun _ H' => OutS H' v L.reverse ob ∧ H'.next = H.next ∧ ∀ k, ob ≠ some k → H'.get k = H.get k := by
  refine w81 rfl rfl _ ?_
  rcases h with ⟨rfl, rfl, rfl⟩ | ⟨b, rfl, rfl, hg⟩
  · have w0 : IntKind.i64.wrap (-1) = -1 := by decide
    simp [s81, w0]
    refine u81_0 S ?_
    simp [s81_0]
    exact .inl ⟨rfl, rfl, rfl⟩
  · have w0 : IntKind.i64.wrap ((L.length : Int) - 1) = (L.length : Int) - 1 := wi (by omega) (by omega)
    simp [s81, w0]
    refine l81_0 S (fun d e H' => ∃ k M, RvI H b L d e H' k M) L.length ⟨0, L, rfl, by omega, ⟨rfl, fun i hi => by rw [if_neg (by omega)]⟩, rfl, fun _ _ => rfl, hg, by simp, by simp, by simp⟩ ?_
    rintro d e H1 ⟨k, M, rfl, hk, ⟨hml, hrv⟩, hn, hkp, hg1, e0, e2, e3⟩
    by_cases h3 : (k : Int) < (L.length : Int) - 1 - k
    · obtain ⟨j, hj⟩ : ∃ j : Nat, j = L.length - 1 - k := ⟨_, rfl⟩
      have hje : (L.length : Int) - 1 - k = (j : Int) := by omega
      rw [hje] at e3 h3
      have h3n : k < j := by omega
      have hkl : k < L.length := by omega
      have hkl' : (k : Int) < L.length := by omega
      have hjl : j < L.length := by omega
      have hjl' : (j : Int) < L.length := by omega
      have w1 : IntKind.i64.wrap ((k : Int) + 1) = ((k + 1 : Nat) : Int) := by rw [wi (by omega) (by omega)]; omega
      have w2 : IntKind.i64.wrap ((j : Int) - 1) = (L.length : Int) - 1 - (k + 1 : Nat) := by rw [wi (by omega) (by omega)]; omega
      obtain ⟨x, hx⟩ : ∃ x, M[k]? = some x := ⟨_, List.getElem?_eq_getElem (by omega)⟩
      obtain ⟨y, hy⟩ : ∃ y, M[j]? = some y := ⟨_, List.getElem?_eq_getElem (by omega)⟩
      have cx := strs_get hx
      have cy := strs_get hy
      have hlt := lt_cells hg1
      have s1 : kSt H1 (.pointer (some ⟨b, k, none⟩)) (.string (ofL y)) = some (H1.put b (.cells (strs (M.set k y)) 9 true)) := by
        simp only [kSt, hg1]
        rw [if_pos (by simp [oneC, strs_len]; omega), strs_set]
      have s2 : kSt (H1.put b (.cells (strs (M.set k y)) 9 true)) (.pointer (some ⟨b, j, none⟩)) (.string (ofL x)) = some (H1.put b (.cells (strs ((M.set k y).set j x)) 9 true)) := by
        simp only [kSt, get_put_eq hlt]
        rw [if_pos (by simp [oneC, strs_len]; omega), strs_set, put_put]
      simp [s81_0, e0, e2, e3, h3, h3n, hkl, hkl', hjl, hjl', addOff, hg1, cx, cy, s1, s2, w1, w2]
      refine ⟨L.length - (k + 1), by omega, k + 1, (M.set k y).set j x, rfl, by omega, ⟨by simp [hml], fun i hi => ?_⟩, by rw [next_put]; exact hn, fun q hq => (get_put_ne hq).trans (hkp q hq), get_put_eq hlt, by simp [e0], by simp, by simp⟩
      have rk := hrv k hkl
      rw [hx, if_neg (by omega)] at rk
      have rj := hrv j hjl
      rw [hy, if_neg (by omega)] at rj
      rw [List.getElem?_set, List.length_set, List.getElem?_set]
      by_cases e1 : j = i
      · rw [if_pos e1, if_pos (by omega), if_pos (by omega), rk]; congr 1; omega
      · rw [if_neg e1]
        by_cases e4 : k = i
        · rw [if_pos e4, if_pos (by omega), if_pos (by omega), rj]; congr 1; omega
        · rw [if_neg e4, hrv i hi]
          by_cases e5 : i < k ∨ L.length - k ≤ i
          · rw [if_pos e5, if_pos (by omega)]
          · rw [if_neg e5, if_neg (by omega)]
    · have hM : M = L.reverse := by
        apply List.ext_getElem?
        intro i
        by_cases hi : i < L.length
        · rw [hrv i hi, List.getElem?_reverse hi]
          by_cases e5 : i < k ∨ L.length - k ≤ i
          · rw [if_pos e5]
          · rw [if_neg e5]; congr 1; omega
        · rw [List.getElem?_eq_none (by omega), List.getElem?_eq_none (by simp; omega)]
      have h3' : ¬ (k : Int) < (L.length : Int) - 1 - k := h3
      simp [s81_0, e2, e3, h3']
      exact ⟨.inr ⟨b, rfl, by simp, by rw [← hM]; exact hg1⟩, hn, fun q hq => hkp q (by rintro rfl; exact hq rfl)⟩
theorem strsOf_strs : ∀ l : List Bytes, strsOf (strs l) = some (l.map ofL)
  | [] => rfl
  | x :: l => by
    have := strsOf_strs l
    show (strsOf (strs l)).map (ofL x :: ·) = _
    rw [this]; rfl
theorem join_nilsep : ∀ l : List Bytes, Lib.join l [] = l.flatten
  | [] => rfl
  | [x] => by simp [Lib.join, List.intercalate]
  | x :: y :: l => by
    have ih := join_nilsep (y :: l)
    unfold Lib.join List.intercalate at *
    simp only [List.intersperse, List.flatten_cons] at *
    rw [ih]; simp
theorem Join_t {v : Value} {L : List Bytes} {ob : Option Nat} (h : OutS H v L ob) (hn : L.length ≤ 100000) (hs : L.flatten.length ≤ 1000000) :
    Wf S 82 [v, .string (ofL [])] H fun v H' => H' = H ∧ v = .string (ofL L.flatten) := by
  refine Wf_prim (p := joinP) join_prim ?_
  obtain ⟨a, c, rfl, hrow⟩ : ∃ a c, v = .slice a L.length c ∧ kRow H 9 1 L.length a = some (strs L) := by
    rcases h with ⟨rfl, rfl, rfl⟩ | ⟨b, rfl, rfl, hg⟩
    · exact ⟨none, 0, rfl, rfl⟩
    · refine ⟨_, _, rfl, ?_⟩
      simp only [kRow, hg, if_true, Nat.mul_one]
      unfold rd
      rw [if_pos (by rw [strs_len]; omega), List.drop_zero, List.take_of_length_le (by rw [strs_len]; omega)]
  have hj : Lib.join ((L.map ofL).map (·.data.toList)) (ofL []).data.toList = L.flatten := by
    rw [List.map_map]
    have : (fun x : ByteArray => x.data.toList) ∘ ofL = id := by funext x; simp [ofL_list]
    rw [this, List.map_id, ofL_list]
    exact join_nilsep L
  refine ⟨.string (ofL L.flatten), H, ?_, rfl, rfl⟩
  simp only [joinP, hrow, Option.bind_some, strsOf_strs, hj]
  rw [if_pos ⟨by omega, by omega⟩]
  rfl
theorem Train_t {v : Value} {l : List Bytes} {size : Int} (hl : SIs H v l) (hn : l.length ≤ 100000) :
    Wf S 33 [v, .int .i64 size] H fun v H' => Kp H.next H H' ∧ ∃ out, Pk (brL l) (min (max size 0) 256) [] out ∧ v = .string (ofL out.reverse.flatten) := by
  refine w33 rfl rfl _ _ ?_
  simp [s33]
  refine (Pieces_t hl hn).mono ?_
  rintro v1 H1 ⟨hk1, out, ob, ho, hob, hpk, hlen⟩
  try simp
  refine (Reverse_t (by omega) ho).mono ?_
  rintro v2 H2 ⟨ho2, hn2, hk2⟩
  have hfl : out.reverse.flatten.length ≤ 1000000 := by
    have := hpk.size (by omega)
    have h2 : out.reverse.flatten.length = out.flatten.length := by
      rw [List.length_flatten, List.length_flatten, List.map_reverse]
      exact ((List.reverse_perm _).sum_nat)
    simp only [List.flatten_nil, List.length_nil] at this
    omega
  have hbs : (Value.string (bs [])) = .string (ofL []) := rfl
  try simp
  rw [hbs]
  refine (Join_t ho2 (by simp; omega) hfl).mono ?_
  rintro v3 H3 ⟨rfl, rfl⟩
  simp
  exact ⟨⟨by rw [hn2]; exact hk1.1, fun k hk => by rw [hk2 k (fun e => by have := hob k e; omega)]; exact hk1.2 k hk⟩, out, hpk, rfl⟩
theorem tWorth_t {v : Value} {l : List Bytes} {s : Bytes} (hl : SIs H v l) (hn : l.length ≤ 100000) (hs : s.length ≤ 100000) :
    Wf S 34 [v, .string (ofL s)] H fun v H' => Kp H.next H H' ∧ v = .int .i64 (worthS (WG (brL l) []) s) := by
  refine w34 rfl rfl _ _ ?_
  simp [s34]
  refine (brought_t hl hn).mono ?_
  rintro v1 H1 ⟨hk1, hA1⟩
  obtain ⟨a1, c1, rfl, hsv1⟩ := hA1.sv rfl
  have hrl := brL_len (l := l)
  try simp
  refine (of_t hsv1 (by omega) (fun r hr => by have := hrl.2 r hr; omega)).mono ?_
  rintro v2 H2 ⟨hk2, mb, rfl, hmb, hM2⟩
  have hW0 : WG0 (brL l) = WG (brL l) [] := by funext g; simp [WG]
  rw [hW0] at hM2
  try simp
  refine (worth_t hM2 (WG_bd hrl.1) s hs).mono ?_
  rintro v3 H3 ⟨hk3, rfl⟩
  simp
  exact (hk1.trans (hk2.mono hk1.1)).trans (hk3.mono (by have := hk1.1; have := hk2.1; omega))
end
end Go.Proofs.Ytlboioplemlneaa.K
/- Dictionaries of what comes again, by the document: what is chosen, walked. -/
set_option maxRecDepth 100000
set_option maxHeartbeats 4000000
set_option linter.unusedVariables false
set_option linter.unusedSimpArgs false
set_option linter.unusedSectionVars false
namespace Go.Proofs.Ytlboioplemlneaa.K
open Go Go.Proofs
theorem OutS.sv {H : Heap} {v : Value} {L : List Bytes} {ob : Option Nat} (h : OutS H v L ob) : ∃ a c, v = .slice a L.length c ∧ Sv H a L := by
  rcases h with ⟨rfl, rfl, rfl⟩ | ⟨b, rfl, rfl, hg⟩
  · exact ⟨none, 0, rfl, fun hp => by simp at hp⟩
  · exact ⟨_, _, rfl, fun _ => ⟨b, 0, strs L, true, rfl, hg, fun i x hx => by rw [Nat.zero_add]; exact strs_get hx⟩⟩
section
variable {H : Heap}
structure R2I (HB : Heap) (v5 v6 v1 : Value) (i : Nat) (r : Bytes) (L0 : List Bytes) (W : Bytes → Nat) (d : Nat) (e : Fe) (H : Heap) (k : Nat) (w : Nat) (p : Bytes) : Prop where
  hd : d = r.length + 1 - k
  hk : k ≤ r.length + 1
  hk6 : 6 ≤ r.length → k ≤ r.length - bestN r + 1
  hk0 : r.length < 6 → k = 0
  hH : H = HB
  pk : pickF W (L0 ++ winsTo r k) (0, []) = (w, p)
  e1 : e 1 = v1
  e5 : e 5 = v5
  e6 : e 6 = v6
  e7 : e 7 = .string (ofL p)
  e8 : e 8 = .int .i64 w
  e9 : e 9 = .int .i64 i
  e10 : e 10 = .int .i64 (bestN r)
  e11 : e 11 = .int .i64 k
theorem r2_t {HB : Heap} {a a2 : Option Addr} {c c2 : Nat} {rs tk : List Bytes} {v1 : Value} {i : Nat} {r : Bytes} {L0 : List Bytes} {e : Fe} {Q : Kx} {w : Nat} {p : Bytes} (hl : Sv HB a rs) (ht : Sv HB a2 tk) (hn : rs.length ≤ 64) (hsz : ∀ r ∈ rs, r.length ≤ 512) (hn2 : tk.length ≤ 100000) (hsz2 : ∀ r ∈ tk, r.length ≤ 100000)
    (hr : rs[i]? = some r) (h : R2I HB (.slice a rs.length c) (.slice a2 tk.length c2) v1 i r L0 (WG rs tk) (r.length + 1) e HB 0 w p)
    (hQ : ∀ e w p, pickF (WG rs tk) (L0 ++ winsL r) (0, []) = (w, p) → (e 1 = v1 ∧ e 5 = .slice a rs.length c ∧ e 6 = .slice a2 tk.length c2 ∧ e 7 = .string (ofL p) ∧ e 8 = .int .i64 w ∧ e 9 = .int .i64 i) → Q (.exit 4) e HB) : WL S b32_2 e HB Q := by
  have hrl := hsz r (List.mem_of_getElem? hr)
  have hbn : bestN r = min 16 r.length := rfl
  have hil : i < rs.length := (List.getElem?_eq_some_iff.1 hr).1
  have hil' : (i : Int) < rs.length := by omega
  refine l32_2 S (fun d e H' => ∃ k w p, R2I HB (.slice a rs.length c) (.slice a2 tk.length c2) v1 i r L0 (WG rs tk) d e H' k w p) (r.length + 1) ⟨0, w, p, h⟩ ?_
  rintro d e H1 ⟨k, w, p, rfl, hk, hk6, hk0, rfl, hpk, e1, e5, e6, e7, e8, e9, e10, e11⟩
  obtain ⟨n, hn'⟩ : ∃ n, n = bestN r := ⟨_, rfl⟩
  rw [← hn'] at e10 hk6 hbn
  obtain ⟨b, o, cs, rw', rfl, hgb, hcs⟩ := hl (by omega)
  have hcr := hcs i r hr
  by_cases h6 : 6 ≤ n
  · have h6' : (6 : Int) ≤ n := by omega
    obtain ⟨j, hj⟩ : ∃ j, j = k + n := ⟨_, rfl⟩
    have w1 : IntKind.i64.wrap ((k : Int) + n) = (j : Int) := by rw [wi (by omega) (by omega)]; omega
    have w2 : IntKind.i64.wrap ((k : Int) + 1) = ((k + 1 : Nat) : Int) := by rw [wi (by omega) (by omega)]; omega
    by_cases h3 : j ≤ r.length
    · have h3' : (j : Int) ≤ r.length := by omega
      have h4 : k ≤ j := by omega
      have h4' : (k : Int) ≤ j := by omega
      have hw : (r.take j).drop k = winD r k n := by rw [hj]; exact win_eq r k n
      obtain ⟨s, hs⟩ : ∃ s, s = winD r k n := ⟨_, rfl⟩
      rw [← hs] at hw
      have hsl : s.length = n := by rw [hs]; exact winD_len (by omega)
      have hnx : pickF (WG rs tk) (L0 ++ winsTo r (k + 1)) (0, []) = if w < worthS (WG rs tk) s then (worthS (WG rs tk) s, s) else (w, p) := by
        rw [winsTo_next, ← List.append_assoc, pickF_app, hpk, ← hn', ← hs]; rfl
      simp [s32_2, e1, e5, e6, e8, e9, e10, e11, h6, h6', w1, hil, hil', addOff, hgb, hcr, ofL_size, h3, h3', s_slice, h4, h4', hw]
      refine (rWorth_t hl ht hn (fun r hr => by have := hsz r hr; omega) hn2 hsz2 (by omega)).mono ?_
      rintro v H2 ⟨rfl, rfl⟩
      by_cases hlt : w < worthS (WG rs tk) s
      · have hlt' : (w : Int) < worthS (WG rs tk) s := by omega
        rw [if_pos hlt] at hnx
        simp [hlt, hlt', e8, e5, e9, e10, e11, hil, hil', addOff, hgb, hcr, w1, s_slice, h3, h3', h4, h4', hw, w2]
        exact ⟨r.length + 1 - (k + 1), by omega, k + 1, _, _, rfl, by omega, fun _ => by omega, fun _ => by omega, rfl, hnx, by simp [e1], by simp [e5], by simp [e6], by simp, by simp, by simp [e9], by simp [e10, hn'], by simp⟩
      · have hlt' : ¬ (w : Int) < worthS (WG rs tk) s := by omega
        rw [if_neg hlt] at hnx
        simp [hlt, hlt', e8, e11, w2]
        exact ⟨r.length + 1 - (k + 1), by omega, k + 1, _, _, rfl, by omega, fun _ => by omega, fun _ => by omega, rfl, hnx, by simp [e1], by simp [e5], by simp [e6], by simp [e7], by simp [e8], by simp [e9], by simp [e10, hn'], by simp⟩
    · have h3' : ¬ (j : Int) ≤ r.length := by omega
      have hke : k = r.length - bestN r + 1 := by have := hk6 (by omega); omega
      rw [hke, ← winsL_eq (by omega)] at hpk
      simp [s32_2, e1, e5, e6, e8, e9, e10, e11, h6, h6', w1, hil, hil', addOff, hgb, hcr, ofL_size, h3, h3']
      exact hQ _ w p hpk (by simp [e1, e5, e6, e7, e8, e9])
  · have h6' : ¬ (6 : Int) ≤ n := by omega
    have hw0 : winsL r = [] := by unfold winsL; rw [if_pos (by omega)]
    have hk00 := hk0 (by omega)
    rw [hk00] at hpk
    have hww : winsTo r 0 = [] := rfl
    rw [hww, ← hw0] at hpk
    simp [s32_2, e10, h6, h6']
    exact hQ _ w p hpk (by simp [e1, e5, e6, e7, e8, e9])
structure R1I (HB : Heap) (v5 v6 v1 : Value) (rs : List Bytes) (W : Bytes → Nat) (d : Nat) (e : Fe) (H : Heap) (i : Nat) (w : Nat) (p : Bytes) : Prop where
  hd : d = rs.length - i
  hi : i ≤ rs.length
  hH : H = HB
  pk : pickF W (pcs (rs.take i)) (0, []) = (w, p)
  e1 : e 1 = v1
  e5 : e 5 = v5
  e6 : e 6 = v6
  e7 : e 7 = .string (ofL p)
  e8 : e 8 = .int .i64 w
  e9 : e 9 = .int .i64 i
theorem r1_t {HB : Heap} {a a2 : Option Addr} {c c2 : Nat} {rs tk : List Bytes} {v1 : Value} {e : Fe} {Q : Kx} (hl : Sv HB a rs) (ht : Sv HB a2 tk) (hn : rs.length ≤ 64) (hsz : ∀ r ∈ rs, r.length ≤ 512) (hn2 : tk.length ≤ 100000) (hsz2 : ∀ r ∈ tk, r.length ≤ 100000)
    (h : R1I HB (.slice a rs.length c) (.slice a2 tk.length c2) v1 rs (WG rs tk) rs.length e HB 0 0 [])
    (hQ : ∀ e w p, pickF (WG rs tk) (pcs rs) (0, []) = (w, p) → (e 1 = v1 ∧ e 5 = .slice a rs.length c ∧ e 6 = .slice a2 tk.length c2 ∧ e 7 = .string (ofL p) ∧ e 8 = .int .i64 w) → Q (.exit 2) e HB) : WL S b32_1 e HB Q := by
  refine l32_1 S (fun d e H' => ∃ i w p, R1I HB (.slice a rs.length c) (.slice a2 tk.length c2) v1 rs (WG rs tk) d e H' i w p) rs.length ⟨0, 0, [], h⟩ ?_
  rintro d e H1 ⟨i, w, p, rfl, hi, rfl, hpk, e1, e5, e6, e7, e8, e9⟩
  by_cases h3 : i < rs.length
  · obtain ⟨b, o, cs, rw', rfl, hgb, hcs⟩ := hl (by omega)
    obtain ⟨r, hr⟩ : ∃ r, rs[i]? = some r := ⟨_, List.getElem?_eq_getElem h3⟩
    have hcr := hcs i r hr
    have h3' : (i : Int) < rs.length := by omega
    have hbn : bestN r = min 16 r.length := rfl
    have w2 : IntKind.i64.wrap ((i : Int) + 1) = ((i + 1 : Nat) : Int) := by rw [wi (by omega) (by omega)]; omega
    have hpn := pcs_next hr
    have rest : ∀ e' : Fe, e' 1 = e 1 → e' 5 = e 5 → e' 6 = e 6 → e' 7 = e 7 → e' 8 = e 8 → e' 9 = e 9 → e' 10 = .int .i64 (bestN r) → e' 11 = .int .i64 0 →
        R2I H1 (.slice (some ⟨b, o, none⟩) rs.length c) (.slice a2 tk.length c2) v1 i r (pcs (rs.take i)) (WG rs tk) (r.length + 1) e' H1 0 w p := fun e' q1 q5 q6 q7 q8 q9 q10 q11 =>
      ⟨by omega, by omega, fun _ => by omega, fun _ => rfl, rfl, by rw [show winsTo r 0 = [] from rfl, List.append_nil]; exact hpk, by rw [q1, e1], by rw [q5, e5], by rw [q6, e6], by rw [q7, e7], by rw [q8, e8], by rw [q9, e9], q10, by rw [q11]; rfl⟩
    by_cases h16 : 16 < r.length
    · have h16' : (16 : Int) < r.length := by omega
      have hb16 : bestN r = 16 := by omega
      simp [s32_1, e5, e9, h3, h3', addOff, hgb, hcr, ofL_size, h16, h16']
      refine r2_t hl ht hn hsz hn2 hsz2 hr (rest _ (by simp) (by simp) (by simp) (by simp) (by simp) (by simp) (by simp [hb16]) (by simp)) ?_
      rintro e' w' p' hpk' ⟨f1, f5, f6, f7, f8, f9⟩
      simp [f9, w2]
      exact ⟨rs.length - (i + 1), by omega, i + 1, w', p', rfl, by omega, rfl, by rw [hpn]; exact hpk', by simp [f1], by simp [f5], by simp [f6], by simp [f7], by simp [f8], by simp⟩
    · have h16' : ¬ (16 : Int) < r.length := by omega
      have hb16 : bestN r = r.length := by omega
      simp [s32_1, e5, e9, h3, h3', addOff, hgb, hcr, ofL_size, h16, h16']
      refine r2_t hl ht hn hsz hn2 hsz2 hr (rest _ (by simp) (by simp) (by simp) (by simp) (by simp) (by simp) (by simp [hb16]) (by simp)) ?_
      rintro e' w' p' hpk' ⟨f1, f5, f6, f7, f8, f9⟩
      simp [f9, w2]
      exact ⟨rs.length - (i + 1), by omega, i + 1, w', p', rfl, by omega, rfl, by rw [hpn]; exact hpk', by simp [f1], by simp [f5], by simp [f6], by simp [f7], by simp [f8], by simp⟩
  · obtain rfl : i = rs.length := by omega
    rw [List.take_length] at hpk
    simp [s32_1, e5, e9]
    exact hQ _ w p hpk (by simp [e1, e5, e6, e7, e8])
structure R0I (HS : Heap) (v5 : Value) (rs : List Bytes) (size : Int) (d : Nat) (e : Fe) (H : Heap) (taken : List Bytes) (cur : Int) (ob : Option Nat) : Prop where
  hd : d = totalW (WG rs taken) (pcs rs)
  kp : Kp HS.next HS H
  kob : ∀ b, ob = some b → HS.next ≤ b
  out : OutS H (e 6) taken ob
  mem : ∀ s ∈ taken, s ∈ pcs rs
  pk : ∀ out, Pk rs cur taken out → Pk rs size [] out
  bd : (taken.length : Int) + max cur 0 ≤ 256
  e1 : e 1 = .int .i64 cur
  e5 : e 5 = v5
theorem rPieces_t {v : Value} {l : List Bytes} {size : Int} (hl : SIs H v l) (hn : l.length ≤ 100000) :
    Wf S 32 [v, .int .i64 size] H fun v H' => PcV (brL l) (min size 256) H v H' := by
  refine w32 rfl rfl _ _ ?_
  simp [s32]
  refine (rBrought_t hl hn).mono ?_
  rintro v1 H1 ⟨hk1, hA1⟩
  obtain ⟨a1, c1, rfl, hsv1⟩ := hA1.sv rfl
  obtain ⟨rs, hrs⟩ : ∃ rs, rs = brL l := ⟨_, rfl⟩
  have hrl := brL_len (l := l)
  rw [← hrs] at hrl hsv1 ⊢
  have main : ∀ (e0 : Fe) (Q : Kx), e0 1 = .int .i64 (min size 256) → e0 5 = .slice a1 rs.length c1 → e0 6 = .slice none 0 0 → (∀ e H2 out ob, Kp H1.next H1 H2 → OutS H2 (e 6) out ob → (∀ b, ob = some b → H1.next ≤ b) → Pk rs (min size 256) [] out → out.length ≤ 256 → Q (.exit 0) e H2) → WL S b32_0 e0 H1 Q := by
    intro e0 Q q1 q5 q6 hQ
    refine l32_0 S (fun d e H' => ∃ taken cur ob, R0I H1 (.slice a1 rs.length c1) rs (min size 256) d e H' taken cur ob) (totalW (WG rs []) (pcs rs)) ⟨[], min size 256, none, rfl, Kp.refl _ _, (fun b hb => by cases hb), .inl ⟨rfl, rfl, q6⟩, (fun s hs => by simp at hs), fun out h => h, by simp; omega, q1, q5⟩ ?_
    rintro d e H2 ⟨tk, cur, ob, rfl, hkp, hkob, hout, hmem, hpk, hbd, e1, e5⟩
    obtain ⟨a2, c2, e6, hsv2⟩ := hout.sv
    have hsz2 : ∀ r ∈ tk, r.length ≤ 100000 := fun r hr => by have := (pcs_mem (hmem r hr)).2; omega
    simp [s32_0]
    refine r1_t (a := a1) (c := c1) (a2 := a2) (c2 := c2) (rs := rs) (tk := tk) (v1 := .int .i64 cur) (hsv1.kp hkp) hsv2 hrl.1 hrl.2 (by omega) hsz2 ⟨by omega, by omega, rfl, by simp [pcs, pickF], by simp [e1], by simp [e5], by simp [e6], by simp; rfl, by simp, by simp⟩ ?_
    rintro e' w p hpick ⟨f1, f5, f6, f7, f8⟩
    have hout' : OutS H2 (e' 6) tk ob := by rw [f6, ← e6]; exact hout
    by_cases hw0 : w = 0
    · simp [f8, hw0]
      exact hQ _ H2 tk ob hkp (by simpa using hout') hkob (hpk _ (.stop (.inl (by rw [hpick]; exact hw0)))) (by omega)
    · have hw0' : ¬ (w : Int) = 0 := by omega
      have hwp : w = worthS (WG rs tk) p ∧ p ∈ pcs rs := by
        rcases pickF_mem (WG rs tk) (pcs rs) (0, []) with h2 | ⟨q, hq, h2⟩
        · rw [hpick] at h2; simp only [Prod.mk.injEq] at h2; exact absurd h2.1 hw0
        · rw [hpick] at h2; simp only [Prod.mk.injEq] at h2; rw [h2.2]; exact ⟨h2.1, hq⟩
      have hpl := pcs_mem hwp.2
      by_cases hlt : cur < (p.length : Int)
      · simp [f8, hw0, hw0', f7, f1, ofL_size, hlt]
        exact hQ _ H2 tk ob hkp (by simpa using hout') hkob (hpk _ (.stop (.inr (by rw [hpick]; exact hlt)))) (by omega)
      · have w1 : IntKind.i64.wrap (cur - p.length) = cur - p.length := wi (by omega) (by omega)
        obtain ⟨v', H3, b', hrow, happ, hout3, hb1, hb2, hk3⟩ := hout'.app (by omega) p
        simp [f8, hw0, hw0', f7, f1, ofL_size, hlt, w1, kFill, evPs, isTup, cellsL, wr]
        rw [hrow]
        simp [happ]
        have hWle : ∀ g, WG rs (tk ++ [p]) g ≤ WG rs tk g := WG_le rs tk p
        have htl : totalW (WG rs (tk ++ [p])) (pcs rs) < totalW (WG rs tk) (pcs rs) := totalW_lt hWle (p := p) (by rw [worthS_taken]; omega) hwp.2
        have h1n := hkp.1
        refine ⟨totalW (WG rs (tk ++ [p])) (pcs rs), htl, tk ++ [p], cur - p.length, some b', rfl, ⟨by omega, fun k hk => ?_⟩, fun b hb => ?_, by simpa using hout3, fun s hs => ?_, fun out ho => hpk out (.step hpick (by omega) (by omega) ho), by simp; omega, by simp, by simp [f5]⟩
        · rw [hk3 k (by omega) (fun e => by have := hkob k e; omega)]; exact hkp.2 k hk
        · simp only [Option.some.injEq] at hb; omega
        · rcases List.mem_append.1 hs with hs | hs
          · exact hmem s hs
          · simp at hs; rw [hs]; exact hwp.2
  by_cases h256 : (256 : Int) < size
  · have hmn : min size 256 = 256 := by omega
    try simp
    simp [h256]
    refine main _ _ (by simp [hmn]) (by simp) (by simp) ?_
    intro e' H2 out ob hk2 ho hob hpk hlen
    simp
    exact ⟨hk1.trans (hk2.mono hk1.1), out, ob, ho, fun b hb => by have := hob b hb; have := hk1.1; omega, hpk, hlen⟩
  · have hmn : min size 256 = size := by omega
    try simp
    simp [h256]
    refine main _ _ (by simp [hmn]) (by simp) (by simp) ?_
    intro e' H2 out ob hk2 ho hob hpk hlen
    simp
    exact ⟨hk1.trans (hk2.mono hk1.1), out, ob, ho, fun b hb => by have := hob b hb; have := hk1.1; omega, hpk, hlen⟩
end
end Go.Proofs.Ytlboioplemlneaa.K
/- Dictionaries of what comes again: a law's texts, its helpers. -/
set_option maxRecDepth 1000000
set_option maxHeartbeats 4000000
set_option linter.unusedVariables false
set_option linter.unusedSimpArgs false
set_option linter.unusedSectionVars false
namespace Go.Proofs.Ytlboioplemlneaa.K
open Go Go.Proofs
theorem strs_flat : ∀ l : List Bytes, l.flatMap (fun x : Bytes => [encS x]) = strs l
  | [] => rfl
  | x :: l => by
    have := strs_flat l
    simp only [List.flatMap_cons, this, strs, List.map_cons]; rfl
theorem arg_texts {b : Nat} {kv : Value} {blk : Blk} (h : ArgSl [.str] 9 b kv blk) : ∃ l : List Bytes, (l.length : Int) ≤ 9223372036854775807 ∧ (∀ x ∈ l, x.length ≤ maxLen) ∧ ∀ H : Heap, H.get b = blk → SIs H kv l := by
  rcases h with rfl | ⟨m, cs, hm, hs, rfl, rfl⟩
  · exact ⟨[], by simp, by simp, fun H _ => .inl ⟨rfl, rfl⟩⟩
  · obtain ⟨l, rfl, rfl, hb⟩ := sks_rows (f := fun x : Bytes => [encS x]) (good := fun x => x.length ≤ maxLen) (by decide) (fun vs h => by
      obtain ⟨_, _, rfl, ⟨k, rfl, hk⟩, rfl⟩ := h
      exact ⟨k.data.toList, by simp [encS, ofL_data], by rw [Array.length_toList]; exact hk⟩) m cs hs
    refine ⟨l, by unfold maxLen at hm; omega, hb, fun H hg => .inr ⟨b, 0, capx, strs l, false, rfl, ?_, ?_, fun i x hx => ?_⟩⟩
    · first | exact .inl rfl | exact .inr (Nat.le_refl _)
    · rw [hg, strs_flat]
    · rw [Nat.zero_add]; exact strs_get hx
theorem awT (blk : Blk) : (evFn S 400 28 [] [blk]).map (fun p => (p.1, p.2.get 0)) = some (.bool true, blk) := by kernel_rfl
theorem awT' (blk : Blk) : Wf S 28 [] [blk] fun v H' => v = .bool true ∧ H'.get 0 = blk := (run_of (awT blk)).mono fun v H' h => by simpa using h
section
variable {H : Heap}
structure SmI (HB : Heap) (v0 : Value) (l : List Bytes) (b : Int) (d : Nat) (e : Fe) (H : Heap) (i : Nat) : Prop where
  hd : d = l.length - i
  hi : i ≤ l.length
  hH : H = HB
  bd : ∀ r ∈ l.take i, (r.length : Int) ≤ b
  e2 : ∃ q : Int, e 2 = .int .i64 q ∧ 0 ≤ q ∧ q ≤ b
  e13 : e 13 = v0
  e14 : e 14 = .int .i64 l.length
  e15 : e 15 = .int .i64 i
theorem small_t {v : Value} {l : List Bytes} {most b : Int} (hl : SIs H v l) (hn : (l.length : Int) ≤ 9223372036854775807) (hx : ∀ x ∈ l, x.length ≤ maxLen) (hb0 : 0 ≤ b) (hb : b ≤ 100000) :
    Wf S 29 [v, .int .i64 most, .int .i64 b] H fun v H' => H' = H ∧ ∃ t : Bool, v = .bool t ∧ (t = true → (l.length : Int) ≤ most ∧ ∀ r ∈ l, (r.length : Int) ≤ b) := by
  refine w29 rfl rfl _ _ _ ?_
  obtain ⟨a, c, rfl, hsv⟩ := hl.sv
  by_cases h1 : most < (l.length : Int)
  · simp [s29, h1]
  · simp [s29, h1]
    refine l29_0 S (fun d e H' => ∃ i, SmI H (.slice a l.length c) l b d e H' i) l.length ⟨0, by omega, by omega, rfl, by simp, ⟨b, by simp, hb0, Int.le_refl _⟩, by simp, by simp, by simp⟩ ?_
    rintro d e H1 ⟨i, rfl, hi, rfl, hbd, ⟨q, e2, hq0, hqb⟩, e13, e14, e15⟩
    by_cases h3 : i < l.length
    · obtain ⟨bb, o, cs, rw', rfl, hg, hcs⟩ := hsv (by omega)
      obtain ⟨r, hr⟩ : ∃ r, l[i]? = some r := ⟨_, List.getElem?_eq_getElem h3⟩
      have hcr := hcs i r hr
      have h3' : (i : Int) < l.length := by omega
      have hrm := hx r (List.mem_of_getElem? hr)
      unfold maxLen at hrm
      have w1 : IntKind.i64.wrap (q - r.length) = q - r.length := wi (by omega) (by omega)
      have w2 : IntKind.i64.wrap ((i : Int) + 1) = ((i + 1 : Nat) : Int) := by rw [wi (by omega) (by omega)]; omega
      by_cases h4 : q - r.length < 0
      · simp [s29_0, e2, e13, e14, e15, h3, h3', addOff, hg, hcr, ofL_size, w1, h4]
      · simp [s29_0, e2, e13, e14, e15, h3, h3', addOff, hg, hcr, ofL_size, w1, h4, w2]
        refine ⟨l.length - (i + 1), by omega, i + 1, rfl, by omega, rfl, fun r' hr' => ?_, ⟨_, by simp; rfl, by omega, by omega⟩, by simp [e13], by simp [e14], by simp⟩
        rw [List.take_add_one, hr, Option.toList_some] at hr'
        rcases List.mem_append.1 hr' with h | h
        · exact hbd r' h
        · simp at h; subst h; omega
    · obtain rfl : i = l.length := by omega
      rw [List.take_length] at hbd
      simp [s29_0, e14, e15]
      exact ⟨by omega, hbd⟩
structure SaI (HB : Heap) (v0 v1 : Value) (l m : List Bytes) (d : Nat) (e : Fe) (H : Heap) (i : Nat) : Prop where
  hd : d = l.length - i
  hi : i ≤ l.length
  hH : H = HB
  eq : l.take i = m.take i
  e0 : e 0 = v0
  e1 : e 1 = v1
  e12 : e 12 = .int .i64 l.length
  e13 : e 13 = .int .i64 i
theorem same_t {a a2 : Option Addr} {c c2 : Nat} {l m : List Bytes} (hl : Sv H a l) (hm : Sv H a2 m) (hn : l.length ≤ 100000) (h : l = m) :
    Wf S 31 [.slice a l.length c, .slice a2 m.length c2] H fun v H' => H' = H ∧ v = .bool true := by
  subst h
  refine w31 rfl rfl _ _ ?_
  simp [s31]
  refine l31_0 S (fun d e H' => ∃ i, SaI H (.slice a l.length c) (.slice a2 l.length c2) l l d e H' i) l.length ⟨0, by omega, by omega, rfl, rfl, by simp, by simp, by simp, by simp⟩ ?_
  rintro d e H1 ⟨i, rfl, hi, rfl, _, e0, e1, e12, e13⟩
  by_cases h3 : i < l.length
  · obtain ⟨b, o, cs, rw', rfl, hg, hcs⟩ := hl (by omega)
    obtain ⟨b2, o2, cs2, rw2, rfl, hg2, hcs2⟩ := hm (by omega)
    obtain ⟨r, hr⟩ : ∃ r, l[i]? = some r := ⟨_, List.getElem?_eq_getElem h3⟩
    have hcr := hcs i r hr
    have hcr2 := hcs2 i r hr
    have h3' : (i : Int) < l.length := by omega
    have w2 : IntKind.i64.wrap ((i : Int) + 1) = ((i + 1 : Nat) : Int) := by rw [wi (by omega) (by omega)]; omega
    simp [s31_0, e0, e1, e12, e13, h3, h3', addOff, hg, hg2, hcr, hcr2, s_neq, w2]
    exact ⟨l.length - (i + 1), by omega, i + 1, rfl, by omega, rfl, rfl, by simp [e0], by simp [e1], by simp [e12], by simp⟩
  · obtain rfl : i = l.length := by omega
    simp [s31_0, e12, e13]
end
/-- a size below 0 is as good as none -/
theorem Pk.neg {rs : List Bytes} {size : Int} {out : List Bytes} (h : Pk rs (min size 256) [] out) : Pk rs (min (max size 0) 256) [] out := by
  by_cases h0 : 0 ≤ size
  · rw [show max size 0 = size by omega]; exact h
  · have h1 : out = [] := by
      cases h with
      | stop => rfl
      | step _ _ hl _ => omega
    subst h1
    refine .stop ?_
    by_cases hw : (pickF (WG rs []) (pcs rs) (0, [])).1 = 0
    · exact .inl hw
    · right
      rcases pickF_mem (WG rs []) (pcs rs) (0, []) with e | ⟨p, hp, e⟩
      · rw [e] at hw; exact absurd rfl hw
      · rw [e]
        have := pcs_mem hp
        simp only; omega
end Go.Proofs.Ytlboioplemlneaa.K
