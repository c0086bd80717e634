/- Dictionaries of what comes again, walked: grams, what a text is worth, what is taken. -/
import Derived.Test.YtlboioplemlneaaPA
import Derived.Test.YtlboioplemlneaaKTrnSh
set_option maxRecDepth 100000
set_option maxHeartbeats 2000000
set_option linter.unusedVariables false
set_option linter.unusedSimpArgs false
namespace Go.Proofs.Ytlboioplemlneaa.K
open Go Go.Proofs
def encS (g : Bytes) : Value := .string (ofL g)
def strs (l : List Bytes) : List Value := l.map encS
theorem strs_len (l : List Bytes) : (strs l).length = l.length := by simp [strs]
theorem strs_app (l m : List Bytes) : strs (l ++ m) = strs l ++ strs m := by simp [strs]
theorem strs_get {l : List Bytes} {i : Nat} {x : Bytes} (h : l[i]? = some x) : (strs l)[i]? = some (.string (ofL x)) := by simp [strs, h, encS]
/-- texts that may be read -/
def Sv (H : Heap) (a : Option Addr) (l : List Bytes) : Prop := 0 < l.length → ∃ b o cs rw, a = some ⟨b, o, none⟩ ∧ H.get b = .cells cs 9 rw ∧ ∀ (i : Nat) x, l[i]? = some x → cs[o + i]? = some (.string (ofL x))
theorem Sv.kp {H H' : Heap} {a : Option Addr} {l : List Bytes} (h : Sv H a l) (hk : Kp H.next H H') : Sv H' a l := fun hp => by
  obtain ⟨b, o, cs, rw', h1, h2, h3⟩ := h hp
  exact ⟨b, o, cs, rw', h1, by rw [hk.2 b (lt_cells h2)]; exact h2, h3⟩
theorem Acc.sv {N M n : Nat} {H : Heap} {v : Value} {l : List Bytes} (h : Acc 9 1 N M H v n (strs l)) (hn : n = l.length) : ∃ a c, v = .slice a l.length c ∧ Sv H a l := by
  obtain ⟨a, c, rfl, hg⟩ := h.len
  refine ⟨a, c, by rw [hn], fun hp => ?_⟩
  obtain ⟨b, rfl, hb⟩ := hg (by omega)
  exact ⟨b, 0, strs l, true, rfl, hb, fun i x hx => by rw [Nat.zero_add]; exact strs_get hx⟩
theorem enc_S : KEnc (α := Bytes) (.s .str) encS := enc_bytes
theorem win_eq (s : Bytes) (i n : Nat) : (s.take (i + n)).drop i = winD s i n := by unfold winD; rw [List.drop_take]; congr 1; omega
section
variable {H : Heap}
structure GrI (H0 : Heap) (s : Bytes) (mb : Nat) (d : Nat) (e : Fe) (H : Heap) (i : Nat) : Prop where
  h2 : d = s.length - 5 - i
  hi : i ≤ s.length - 5
  kp : Kp H0.next H0 H
  hmb : H0.next ≤ mb ∧ mb < H.next
  km : KM (.s .str) encS H mb (fun g => if g ∈ gramsTo s i then some (.bool true) else none)
  acc : Acc 9 1 (mb + 1) H.next H (e 3) (gramsTo s i).length (strs (gramsTo s i))
  e0 : e 0 = .string (ofL s)
  e4 : e 4 = .map (some mb)
  e5 : e 5 = .int .i64 i
theorem grams_t' {S : Sys} (hR : S.R 110 = none) (hF : S.F 110 = some k110) (s : Bytes) (hs : s.length ≤ 100000) :
    Wf S 110 [.string (ofL s)] H fun v H' => Kp H.next H H' ∧ Acc 9 1 H.next H'.next H' v (gramsL s).length (strs (gramsL s)) := by
  refine w110 hR hF _ ?_
  simp [s110]
  refine l110_0 S (fun d e H' => ∃ i, GrI H s H.next d e H' i) (s.length - 5) ⟨0, by omega, by omega, Kp.push (Nat.le_refl _), ⟨Nat.le_refl _, by simp⟩, ?_, Acc.nil, by simp, by simp, by simp⟩ ?_
  · exact KM.empty (c := 0) (by rw [get_last])
  rintro d e H1 ⟨i, rfl, hi, hk, hmb, hkm, hA, e0, e4, e5⟩
  have w1 : IntKind.i64.wrap ((i : Int) + 6) = ((i + 6 : Nat) : Int) := by rw [wi (by omega) (by omega)]; omega
  have w2 : IntKind.i64.wrap ((i : Int) + 1) = ((i + 1 : Nat) : Int) := by rw [wi (by omega) (by omega)]; omega
  obtain ⟨j, hj⟩ : ∃ j, j = i + 6 := ⟨_, rfl⟩
  rw [← hj] at w1
  by_cases h3 : j ≤ s.length
  · have h3' : (j : Int) ≤ s.length := by omega
    have h4 : i ≤ j := by omega
    have h4' : (i : Int) ≤ j := by omega
    have hw : (s.take j).drop i = winD s i 6 := by rw [hj]; exact win_eq s i 6
    have hlk := fun K => hkm.lkp enc_S (S := S) (winD s i 6) (.bool false) (e := []) (K := K)
    simp only [encS] at hlk
    simp [s110_0, e0, e4, e5, w1, ofL_size, h3, h3', s_slice, h4, h4', hw]
    rw [hlk]
    by_cases h5 : winD s i 6 ∈ gramsTo s i
    · have hg : gramsTo s (i + 1) = gramsTo s i := by simp only [gramsTo]; rw [if_pos h5]
      simp [h5, e5, w2]
      exact ⟨s.length - 5 - (i + 1), by omega, i + 1, rfl, by omega, hk, hmb, by rw [hg]; exact hkm, by rw [hg]; simpa using hA, by simp [e0], by simp [e4], by simp⟩
    · have hg : gramsTo s (i + 1) = gramsTo s i ++ [winD s i 6] := by simp only [gramsTo]; rw [if_neg h5]
      obtain ⟨x, hx, hx2⟩ := hkm.mup enc_S (winD s i 6) (.bool true)
      simp only [encS] at hx
      have hgl := gramsTo_len s i
      have hA1 : Acc 9 1 (H.next + 1) H1.next (H1.put H.next x) (e 3) (gramsTo s i).length (strs (gramsTo s i)) := hA.kp fun b h1 h2 => get_put_ne (by omega)
      obtain ⟨v', H2, ha1, ha2, ha3, ha4⟩ := hA1.app (new := [.string (ofL (winD s i 6))]) (bytes := 16) (by rw [next_put]; omega) (by rw [next_put]; exact Nat.le_refl _) rfl (by unfold roomMax; omega)
      rw [next_put] at ha3 ha4
      obtain ⟨HP, hHP⟩ : ∃ HP, HP = (H1.put H.next x).push (.cells [.string (ofL (winD s i 6))] 9 true) := ⟨_, rfl⟩
      have hrow : kRow HP 9 1 1 (some ⟨H1.next, 0, none⟩) = some [.string (ofL (winD s i 6))] := by
        rw [hHP]
        have := get_last (H := H1.put H.next x) (b := .cells [.string (ofL (winD s i 6))] 9 true)
        rw [next_put] at this
        simp [kRow, this, rd]
      rw [← hHP] at ha1
      simp [h5, e0, e4, e5, hx, kFill, evPs, isTup, cellsL, wr, next_put]
      rw [← hHP, hrow]
      simp [ha1, w2, e5]
      refine ⟨s.length - 5 - (i + 1), by omega, i + 1, rfl, by omega, ⟨Nat.le_trans hk.1 (by omega), fun k hk' => ?_⟩, ⟨hmb.1, by omega⟩, ?_, ?_, by simp [e0], by simp [e4], by simp⟩
      · rw [ha4 k (by omega) (.inl (by omega)), get_put_ne (by omega)]; exact hk.2 k hk'
      · have := hx2 H2 (by rw [ha4 H.next (by omega) (.inl (by omega)), get_put_eq hmb.2])
        have hf : (fun k => if k = winD s i 6 then some (.bool true) else if k ∈ gramsTo s i then some (.bool true) else none) = fun g => if g ∈ gramsTo s (i + 1) then some (Value.bool true) else none := by
          funext g
          rw [hg]
          by_cases e : g = winD s i 6
          · simp [e]
          · simp [e]
        rw [hf] at this
        exact this
      · rw [hg, strs_app, List.length_append]
        simpa [strs, encS] using ha2
  · have h3' : ¬ (j : Int) ≤ s.length := by omega
    obtain rfl : i = s.length - 5 := by omega
    simp [s110_0, e0, e5, w1, ofL_size, h3, h3']
    exact ⟨hk, by rcases hA with h | ⟨b, c, q1, q2, q3, q4, q5, q6⟩; exact .inl h; exact .inr ⟨b, c, by omega, q2, q3, q4, q5, q6⟩⟩
end
end Go.Proofs.Ytlboioplemlneaa.K
/- Dictionaries of what comes again, walked: worth, take, brought, of. -/
set_option maxRecDepth 100000
set_option maxHeartbeats 2000000
set_option linter.unusedVariables false
set_option linter.unusedSimpArgs false
namespace Go.Proofs.Ytlboioplemlneaa.K
open Go Go.Proofs
/-- weights in a map -/
def MW (H : Heap) (mb : Nat) (W : Bytes → Nat) : Prop := ∃ f, KMB (.s .str) encS H mb f ∧ ∀ g, (f g).getD (.int .i64 0) = .int .i64 (W g)
theorem MW.lt {H : Heap} {mb : Nat} {W : Bytes → Nat} (h : MW H mb W) : mb < H.next := by obtain ⟨f, h1, _⟩ := h; exact h1.lt
theorem MW.get {H H' : Heap} {mb : Nat} {W : Bytes → Nat} (h : MW H mb W) (hg : H'.get mb = H.get mb) : MW H' mb W := by obtain ⟨f, h1, h2⟩ := h; exact ⟨f, h1.get hg, h2⟩
theorem MW.lkp {H : Heap} {mb : Nat} {W : Bytes → Nat} (h : MW H mb W) (S : Sys) (g : Bytes) (K : Kv) : run S (.lkp (.s .str) (.int .i64 0) false (.c (.map (some mb))) (.c (.string (ofL g)))) [] H K = K (.int .i64 (W g)) H := by
  obtain ⟨f, h1, h2⟩ := h
  have := h1.km.lkp enc_S (S := S) g (.int .i64 0) (e := []) (K := K)
  rw [h2 g] at this; exact this
def sW (W : Bytes → Nat) (l : List Bytes) : Nat := (l.map W).sum
theorem sum_take {W : Bytes → Nat} {l : List Bytes} {i : Nat} {g : Bytes} (h : l[i]? = some g) : sW W (l.take (i + 1)) = sW W (l.take i) + W g := by
  unfold sW
  rw [List.take_add_one, h, Option.toList_some, List.map_append, List.sum_append]; simp
theorem sum_bd {W : Bytes → Nat} {b : Nat} (h : ∀ g, W g ≤ b) : ∀ l : List Bytes, sW W l ≤ l.length * b
  | [] => by simp [sW]
  | g :: l => by
    have := sum_bd h l; have := h g
    unfold sW at *
    simp only [List.map_cons, List.sum_cons, List.length_cons, Nat.succ_mul]; omega
theorem run_del {S : Sys} {kk : EqK} {m k : Value} {H H' : Heap} {K : Kv} (h : kDel H kk m k = some H') : run S (.del kk (.c m) (.c k)) [] H K = K (.tuple #[]) H' := by
  show oT ((kDel H kk m k).map (Value.tuple #[], ·)) K = _
  rw [h]; rfl
section
variable {H : Heap}
structure WoI (H0 : Heap) (mb : Nat) (gs : List Bytes) (W : Bytes → Nat) (d : Nat) (e : Fe) (H : Heap) (i : Nat) : Prop where
  h2 : d = gs.length - i
  hi : i ≤ gs.length
  kp : H = H0
  e0 : e 0 = .map (some mb)
  e5 : e 5 = .int .i64 (sW W (gs.take i) : Nat)
  e9 : ∃ a c, e 9 = .slice a gs.length c ∧ Sv H a gs
  e10 : e 10 = .int .i64 gs.length
  e11 : e 11 = .int .i64 i
theorem worth_t {mb : Nat} {W : Bytes → Nat} (hM : MW H mb W) (hW : ∀ g, W g ≤ 1000) (s : Bytes) (hs : s.length ≤ 100000) :
    Wf S 83 [.map (some mb), .string (ofL s)] H fun v H' => Kp H.next H H' ∧ v = .int .i64 (worthS W s) := by
  refine w83 rfl rfl _ _ ?_
  simp [s83]
  refine (grams_t' rfl rfl s hs).mono ?_
  rintro v H1 ⟨hk, hA⟩
  obtain ⟨a, c, rfl, hsv⟩ := hA.sv rfl
  have hgl := gramsL_len s
  have hM1 : MW H1 mb W := hM.get (hk.2 mb hM.lt)
  try simp
  refine l83_0 S (fun d e H' => ∃ i, WoI H1 mb (gramsL s) W d e H' i) (gramsL s).length ⟨0, by omega, by omega, rfl, by simp, by simp [sW], ⟨a, c, by simp, hsv⟩, by simp, by simp⟩ ?_
  rintro d e H2 ⟨i, rfl, hi, rfl, e0, e5, ⟨a', c', e9, hsv'⟩, e10, e11⟩
  by_cases h3 : i < (gramsL s).length
  · obtain ⟨b, o, cs, rw', rfl, hg, hcs⟩ := hsv' (by omega)
    obtain ⟨g, hgi⟩ : ∃ g, (gramsL s)[i]? = some g := ⟨_, List.getElem?_eq_getElem h3⟩
    have hc := hcs i g hgi
    have h3' : (i : Int) < (gramsL s).length := by omega
    have hlk := fun K => hM1.lkp S g K
    have hst := sum_take (W := W) hgi
    have hsb := sum_bd hW ((gramsL s).take i)
    have hlt : ((gramsL s).take i).length ≤ 100000 := by rw [List.length_take]; omega
    have hmul : ((gramsL s).take i).length * 1000 ≤ 100000 * 1000 := Nat.mul_le_mul_right _ hlt
    have hwg := hW g
    have w1 : IntKind.i64.wrap ((sW W ((gramsL s).take i) : Nat) + (W g : Nat) : Int) = ((sW W ((gramsL s).take (i + 1)) : Nat) : Int) := by rw [hst, wi (by omega) (by omega)]; omega
    have w2 : IntKind.i64.wrap ((i : Int) + 1) = ((i + 1 : Nat) : Int) := by rw [wi (by omega) (by omega)]; omega
    simp [s83_0, e0, e5, e9, e10, e11, h3, h3', addOff, hg, hc, hlk, w1, w2]
    exact ⟨(gramsL s).length - (i + 1), by omega, i + 1, rfl, by omega, rfl, by simp [e0], by simp, ⟨_, c', by simp [e9], hsv'⟩, by simp [e10], by simp⟩
  · obtain rfl : i = (gramsL s).length := by omega
    simp [s83_0, e5, e10, e11]
    exact ⟨hk, rfl⟩
structure TkI (H0 : Heap) (mb : Nat) (gs : List Bytes) (W : Bytes → Nat) (d : Nat) (e : Fe) (H : Heap) (i : Nat) : Prop where
  h2 : d = gs.length - i
  hi : i ≤ gs.length
  nx : H.next = H0.next
  kp : ∀ k, k ≠ mb → H.get k = H0.get k
  mw : MW H mb (fun g => if g ∈ gs.take i then 0 else W g)
  e0 : e 0 = .map (some mb)
  e7 : ∃ a c, e 7 = .slice a gs.length c ∧ Sv H a gs ∧ ∀ x, a = some x → x.block ≠ mb
  e8 : e 8 = .int .i64 gs.length
  e9 : e 9 = .int .i64 i
theorem take_t' {mb : Nat} {W : Bytes → Nat} (hM : MW H mb W) (s : Bytes) (hs : s.length ≤ 100000) :
    Wf S 80 [.map (some mb), .string (ofL s)] H fun _ H' => H.next ≤ H'.next ∧ (∀ k, k < H.next → k ≠ mb → H'.get k = H.get k) ∧ MW H' mb (fun g => if hasG s g then 0 else W g) := by
  refine w80 rfl rfl _ _ ?_
  simp [s80]
  refine (grams_t' rfl rfl s hs).mono ?_
  rintro v H1 ⟨hk, hA⟩
  have hlt := hM.lt
  obtain ⟨a, c, rfl, hsv⟩ : ∃ a c, v = .slice a (gramsL s).length c ∧ (Sv H1 a (gramsL s) ∧ ∀ x, a = some x → x.block ≠ mb) := by
    rcases hA with ⟨h1, h2, rfl⟩ | ⟨b, c, q1, q2, rfl, q4, q5, q6⟩
    · exact ⟨none, 0, by rw [h1], fun hp => by omega, fun x hx => by cases hx⟩
    · exact ⟨_, _, rfl, fun _ => ⟨b, 0, strs (gramsL s), true, rfl, q5, fun i x hx => by rw [Nat.zero_add]; exact strs_get hx⟩, fun x hx => by cases hx; simp only; omega⟩
  have hgl := gramsL_len s
  have hM1 : MW H1 mb W := hM.get (hk.2 mb hM.lt)
  try simp
  refine l80_0 S (fun d e H' => ∃ i, TkI H1 mb (gramsL s) W d e H' i) (gramsL s).length ⟨0, by omega, by omega, rfl, fun _ _ => rfl, by simpa using hM1, by simp, ⟨a, c, by simp, hsv⟩, by simp, by simp⟩ ?_
  rintro d e H2 ⟨i, rfl, hi, hn, hkp, hmw, e0, ⟨a', c', e7, hsv', hab⟩, e8, e9⟩
  by_cases h3 : i < (gramsL s).length
  · obtain ⟨b, o, cs, rw', rfl, hg, hcs⟩ := hsv' (by omega)
    obtain ⟨g, hgi⟩ : ∃ g, (gramsL s)[i]? = some g := ⟨_, List.getElem?_eq_getElem h3⟩
    have hc := hcs i g hgi
    have h3' : (i : Int) < (gramsL s).length := by omega
    have w2 : IntKind.i64.wrap ((i : Int) + 1) = ((i + 1 : Nat) : Int) := by rw [wi (by omega) (by omega)]; omega
    obtain ⟨f, hf, hfw⟩ := hmw
    obtain ⟨x, hx, hx2⟩ := hf.del enc_S g
    have hdl := fun K => run_del (S := S) (K := K) hx
    simp only [encS] at hdl
    have hbm := hab _ rfl
    simp only at hbm
    simp [s80_0, e0, e7, e8, e9, h3, h3', addOff, hg, hc, hdl, w2]
    have hl2 := hf.lt
    refine ⟨(gramsL s).length - (i + 1), by omega, i + 1, rfl, by omega, by rw [next_put]; exact hn, fun k hk' => (get_put_ne hk').trans (hkp k hk'), ⟨_, hx2 _ (get_put_eq hl2), fun g' => ?_⟩, by simp [e0], ⟨_, c', by simp [e7], fun _ => ⟨b, o, cs, rw', rfl, by rw [get_put_ne hbm]; exact hg, hcs⟩, hab⟩, by simp [e8], by simp⟩
    have hmem : g' ∈ (gramsL s).take (i + 1) ↔ g' ∈ (gramsL s).take i ∨ g' = g := by
      rw [List.take_add_one, hgi, Option.toList_some, List.mem_append, List.mem_singleton]
    have hfg : (f g').getD (.int .i64 0) = .int .i64 ((if g' ∈ (gramsL s).take i then 0 else W g' : Nat) : Int) := hfw g'
    show (if g' = g then none else f g').getD (.int .i64 0) = .int .i64 ((if g' ∈ (gramsL s).take (i + 1) then 0 else W g' : Nat) : Int)
    by_cases e1 : g' = g
    · rw [if_pos e1, if_pos (hmem.2 (.inr e1))]; rfl
    · rw [if_neg e1, hfg]
      by_cases e2 : g' ∈ (gramsL s).take i
      · rw [if_pos e2, if_pos (hmem.2 (.inl e2))]
      · rw [if_neg e2, if_neg (fun h => (hmem.1 h).elim e2 e1)]
  · obtain rfl : i = (gramsL s).length := by omega
    simp [s80_0, e8, e9]
    refine ⟨by rw [hn]; exact hk.1, fun k h1 h2 => (hkp k h2).trans (hk.2 k h1), ?_⟩
    rw [List.take_length] at hmw
    have : (fun g => if g ∈ gramsL s then 0 else W g) = fun g => if hasG s g = true then 0 else W g := by funext g; simp [hasG]
    rw [this] at hmw; exact hmw
/-- records as they count -/
def brL (l : List Bytes) : List Bytes := (l.take 64).map (·.take 512)
structure BrI (H0 : Heap) (L : List Bytes) (d : Nat) (e : Fe) (H : Heap) (i : Nat) : Prop where
  h2 : d = L.length - i
  hi : i ≤ L.length
  kp : Kp H0.next H0 H
  acc : Acc 9 1 H0.next H.next H (e 3) i (strs ((L.take i).map (·.take 512)))
  e10 : ∃ a c, e 10 = .slice a L.length c ∧ Sv H0 a L
  e11 : e 11 = .int .i64 L.length
  e12 : e 12 = .int .i64 i
theorem Sv.take {a : Option Addr} {l : List Bytes} (h : Sv H a l) (n : Nat) : Sv H a (l.take n) := fun hp => by
  obtain ⟨b, o, cs, rw', h1, h2, h3⟩ := h (by rw [List.length_take] at hp; omega)
  exact ⟨b, o, cs, rw', h1, h2, fun i x hx => h3 i x (by rw [List.getElem?_take] at hx; split at hx; exact hx; cases hx)⟩
/-- a slice of texts that may be cut -/
def SIs (H : Heap) (v : Value) (l : List Bytes) : Prop := (v = .slice none 0 0 ∧ l = []) ∨ ∃ b o c cs rw, v = .slice (some ⟨b, o, none⟩) l.length c ∧ (c = capx ∨ l.length ≤ c) ∧ H.get b = .cells cs 9 rw ∧ ∀ (i : Nat) x, l[i]? = some x → cs[o + i]? = some (.string (ofL x))
theorem SIs.sv {v : Value} {l : List Bytes} (h : SIs H v l) : ∃ a c, v = .slice a l.length c ∧ Sv H a l := by
  rcases h with ⟨rfl, rfl⟩ | ⟨b, o, c, cs, rw', rfl, hc, hg, hx⟩
  · exact ⟨none, 0, rfl, fun hp => by simp at hp⟩
  · exact ⟨_, _, rfl, fun _ => ⟨b, o, cs, rw', rfl, hg, hx⟩⟩
theorem SIs.kp {H' : Heap} {v : Value} {l : List Bytes} (h : SIs H v l) (hk : Kp H.next H H') : SIs H' v l := by
  rcases h with h | ⟨b, o, c, cs, rw', h1, hc, hg, hx⟩
  · exact .inl h
  · exact .inr ⟨b, o, c, cs, rw', h1, hc, by rw [hk.2 b (lt_cells hg)]; exact hg, hx⟩
theorem SIs.len {S : Sys} {v : Value} {l : List Bytes} {K : Kv} (h : SIs H v l) : run S (.lenL (.c v)) [] H K = K (.int .i64 l.length) H := by
  obtain ⟨a, c, rfl, _⟩ := h.sv
  simp
theorem SIs.upto {S : Sys} {v : Value} {l : List Bytes} (h : SIs H v l) {m : Nat} (hm : m ≤ l.length) : ∃ a c, Sv H a (l.take m) ∧ ∀ K : Kv, run S (.slc 9 1 (.c v) none (some (.c (.int .i64 m)))) [] H K = K (.slice a (l.take m).length c) H := by
  have hml : (l.take m).length = m := by rw [List.length_take]; omega
  rcases h with ⟨rfl, rfl⟩ | ⟨b, o, c, cs, rw', rfl, hc, hg, hx⟩
  · obtain rfl : m = 0 := by simpa using hm
    refine ⟨none, 0, fun hp => by simp at hp, fun K => ?_⟩
    show oT ((kSlc H 9 1 (.slice none 0 0) 0 (some ((0 : Nat) : Int))).map (·, H)) K = _
    simp [kSlc, capx]
  · have hsv : Sv H (some ⟨b, o, none⟩) (l.take m) := Sv.take (fun _ => ⟨b, o, cs, rw', rfl, hg, hx⟩) m
    by_cases hcx : c = capx
    · refine ⟨some ⟨b, o, none⟩, capx, hsv, fun K => ?_⟩
      show oT ((kSlc H _ 1 (.slice (some ⟨b, o, none⟩) l.length c) 0 (some (m : Int))).map (·, H)) K = _
      have h1 : (0 : Int) ≤ m ∧ (m : Int) ≤ l.length := by omega
      have h2 : 0 ≤ (m : Int) ∧ m ≤ l.length := by omega
      simp only [kSlc, hg, if_true, hcx, Option.getD_some]
      rw [if_pos ⟨Int.le_refl _, h1.1, h1.2⟩]
      simp [addOff, hml]
    · have hcl : l.length ≤ c := by rcases hc with h | h; exact absurd h hcx; exact h
      refine ⟨some ⟨b, o, none⟩, c, hsv, fun K => ?_⟩
      show oT ((kSlc H _ 1 (.slice (some ⟨b, o, none⟩) l.length c) 0 (some (m : Int))).map (·, H)) K = _
      simp only [kSlc, hg, if_true, hcx, if_false, Option.getD_some]
      rw [if_pos ⟨Int.le_refl _, by omega, by omega⟩]
      have : (if (0 : Int).toNat = c then (⟨b, o, none⟩ : Addr) else addOff ⟨b, o, none⟩ ((0 : Int).toNat * 1)) = ⟨b, o, none⟩ := by split <;> simp [addOff]
      rw [this]
      simp
      rw [show min m l.length = m by omega]
theorem brought_t {v : Value} {l : List Bytes} (hl : SIs H v l) (hn : l.length ≤ 100000) :
    Wf S 76 [v] H fun v H' => Kp H.next H H' ∧ Acc 9 1 H.next H'.next H' v (brL l).length (strs (brL l)) := by
  refine w76 rfl rfl _ ?_
  have hlen := fun K => hl.len (S := S) (K := K)
  obtain ⟨m, hm⟩ : ∃ m, m = min 64 l.length := ⟨_, rfl⟩
  have hmn : (if (64 : Int) < l.length then (64 : Int) else l.length) = (m : Int) := by split <;> omega
  have hmin : min (l.length : Int) 64 = (m : Int) := by omega
  obtain ⟨a, c, hsv, hcut⟩ := hl.upto (S := S) (m := m) (by omega)
  have htk : l.take m = l.take 64 := by
    rw [hm]
    by_cases h : 64 ≤ l.length
    · rw [Nat.min_eq_left h]
    · rw [Nat.min_eq_right (by omega), List.take_of_length_le (Nat.le_refl _), List.take_of_length_le (by omega)]
  rw [htk] at hsv hcut
  obtain ⟨L, hL⟩ : ∃ L, L = l.take 64 := ⟨_, rfl⟩
  rw [← hL] at hsv hcut
  have hbr : brL l = L.map (·.take 512) := by unfold brL; rw [hL]
  rw [hbr, List.length_map]
  have hl64 : L.length ≤ 64 := by rw [hL, List.length_take]; omega
  clear hL htk hbr
  simp [s76, hlen, hmin]
  rw [hcut]
  try simp only [run_lenL]
  refine l76_0 S (fun d e H' => ∃ i, BrI H L d e H' i) L.length ⟨0, by omega, by omega, Kp.refl _ _, by simpa [strs] using Acc.nil, ⟨a, c, by simp, hsv⟩, by simp, by simp⟩ ?_
  rintro d e H1 ⟨i, rfl, hi, hk, hA, ⟨a', c', e10, hsv'⟩, e11, e12⟩
  by_cases h3 : i < L.length
  · obtain ⟨b, o, cs, rw', rfl, hg, hcs⟩ := (hsv'.kp hk) (by omega)
    obtain ⟨r, hr⟩ : ∃ r, L[i]? = some r := ⟨_, List.getElem?_eq_getElem h3⟩
    have hcr := hcs i r hr
    have h3' : (i : Int) < L.length := by omega
    have w2 : IntKind.i64.wrap ((i : Int) + 1) = ((i + 1 : Nat) : Int) := by rw [wi (by omega) (by omega)]; omega
    obtain ⟨q, hq⟩ : ∃ q, q = min 512 r.length := ⟨_, rfl⟩
    have hq2 : min (r.length : Int) 512 = (q : Int) := by omega
    have hqr : r.take q = r.take 512 := by
      rw [hq]
      by_cases h : 512 ≤ r.length
      · rw [Nat.min_eq_left h]
      · rw [Nat.min_eq_right (by omega), List.take_of_length_le (Nat.le_refl _), List.take_of_length_le (by omega)]
    have hq3 : q ≤ r.length := by omega
    have hq3' : (q : Int) ≤ r.length := by omega
    obtain ⟨v', H2, ha1, ha2, ha3, ha4⟩ := hA.app (new := [.string (ofL (r.take 512))]) (bytes := 16) hk.1 (Nat.le_refl _) rfl (by unfold roomMax; omega)
    obtain ⟨HP, hHP⟩ : ∃ HP, HP = H1.push (.cells [.string (ofL (r.take 512))] 9 true) := ⟨_, rfl⟩
    have hrow : kRow HP 9 1 1 (some ⟨H1.next, 0, none⟩) = some [.string (ofL (r.take 512))] := by
      rw [hHP]; simp [kRow, rd]
    rw [← hHP] at ha1
    have hnx : L.take (i + 1) = L.take i ++ [r] := by rw [List.take_add_one, hr, Option.toList_some]
    simp [s76_0, e10, e11, e12, h3, h3', addOff, hg, hcr, ofL_size, hq2, s_upto, hq3, hq3', hqr, kFill, evPs, isTup, cellsL, wr]
    rw [← hHP, hrow]
    simp [ha1, w2, e12]
    refine ⟨L.length - (i + 1), by omega, i + 1, rfl, by omega, ⟨Nat.le_trans hk.1 (by omega), fun k hk' => ?_⟩, ?_, ⟨_, c', by simp [e10], hsv'⟩, by simp [e11], by simp⟩
    · rw [ha4 k (by have := hk.1; omega) (.inl (by omega))]; exact hk.2 k hk'
    · rw [hnx, List.map_append, strs_app]
      simpa [strs, encS] using ha2
  · obtain rfl : i = L.length := by omega
    simp [s76_0, e11, e12]
    rw [List.take_length] at hA
    exact ⟨hk, hA⟩
end
end Go.Proofs.Ytlboioplemlneaa.K
/- Dictionaries of what comes again, walked: the weights of records' grams. -/
set_option maxRecDepth 100000
set_option maxHeartbeats 2000000
set_option linter.unusedVariables false
set_option linter.unusedSimpArgs false
namespace Go.Proofs.Ytlboioplemlneaa.K
open Go Go.Proofs
/-- counts, as a map has them -/
def cf (C : Bytes → Nat) (g : Bytes) : Option Value := if C g = 0 then none else some (.int .i64 (C g))
theorem cf_get (C : Bytes → Nat) (g : Bytes) : (cf C g).getD (.int .i64 0) = .int .i64 (C g) := by
  unfold cf
  by_cases h : C g = 0
  · rw [if_pos h, h]; rfl
  · rw [if_neg h]; rfl
theorem cntG_next {l : List Bytes} {i : Nat} {r : Bytes} (h : l[i]? = some r) (g : Bytes) : cntG (l.take (i + 1)) g = cntG (l.take i) g + if hasG r g then 1 else 0 := by
  unfold cntG
  rw [List.take_add_one, h, Option.toList_some, List.filter_append, List.length_append]
  congr 1
  cases hh : hasG r g <;> simp [hh]
theorem cntG_le (l : List Bytes) (g : Bytes) : cntG l g ≤ l.length := List.length_filter_le _ _
section
variable {H : Heap}
structure Of2 (H0 : Heap) (mb : Nat) (gs : List Bytes) (C : Bytes → Nat) (E : Fe) (d : Nat) (e : Fe) (H : Heap) (j : Nat) : Prop where
  h2 : d = gs.length - j
  hj : j ≤ gs.length
  nx : H.next = H0.next
  kp : ∀ k, k ≠ mb → H.get k = H0.get k
  km : KMB (.s .str) encS H mb (cf fun g => C g + if g ∈ gs.take j then 1 else 0)
  e3 : e 3 = .map (some mb)
  e17 : ∃ a c, e 17 = .slice a gs.length c ∧ Sv H a gs ∧ ∀ x, a = some x → x.block ≠ mb
  e18 : e 18 = .int .i64 gs.length
  e19 : e 19 = .int .i64 j
  eo : e 10 = E 10 ∧ e 11 = E 11 ∧ e 12 = E 12
theorem of2_t {H0 : Heap} {mb : Nat} {gs : List Bytes} {C : Bytes → Nat} {E e : Fe} {Q : Kx} (hC : ∀ g, C g ≤ 1000) (hn : gs.Nodup) (hgl : gs.length ≤ 100000) (h : Of2 H0 mb gs C E gs.length e H 0)
    (hQ : ∀ e H, Of2 H0 mb gs C E 0 e H gs.length → Q (.exit 2) e H) : WL S b77_1 e H Q := by
  refine l77_1 S (fun d e H' => ∃ j, Of2 H0 mb gs C E d e H' j) gs.length ⟨0, h⟩ ?_
  rintro d e H1 ⟨j, rfl, hj, hnx, hkp, hkm, e3, ⟨a, c, e17, hsv, hab⟩, e18, e19, eo⟩
  by_cases h3 : j < gs.length
  · obtain ⟨b, o, cs, rw', rfl, hg, hcs⟩ := hsv (by omega)
    obtain ⟨g, hgi⟩ : ∃ g, gs[j]? = some g := ⟨_, List.getElem?_eq_getElem h3⟩
    have hc := hcs j g hgi
    have h3' : (j : Int) < gs.length := by omega
    have w2 : IntKind.i64.wrap ((j : Int) + 1) = ((j + 1 : Nat) : Int) := by rw [wi (by omega) (by omega)]; omega
    have hbm := hab _ rfl
    simp only at hbm
    have hng : g ∉ gs.take j := by
      intro hm
      obtain ⟨i, hi⟩ := List.mem_iff_getElem?.1 hm
      rw [List.getElem?_take] at hi
      split at hi
      · rename_i hij
        have hpw := List.pairwise_iff_getElem.1 hn
        have l1 := (List.getElem?_eq_some_iff.1 hi)
        have l2 := (List.getElem?_eq_some_iff.1 hgi)
        obtain ⟨q1, q2⟩ := l1
        obtain ⟨q3, q4⟩ := l2
        exact hpw i j q1 q3 hij (q2.trans q4.symm)
      · cases hi
    have hlk := fun K => hkm.km.lkp enc_S (S := S) g (.int .i64 0) (e := []) (K := K)
    simp only [cf_get, if_neg hng, Nat.add_zero] at hlk
    have hcg := hC g
    have w1 : IntKind.i64.wrap ((C g : Int) + 1) = ((C g + 1 : Nat) : Int) := by rw [wi (by omega) (by omega)]; omega
    obtain ⟨x, hx, hx2⟩ := hkm.mup enc_S g (.int .i64 ((C g + 1 : Nat) : Int))
    simp only [encS] at hx hlk
    have hl2 := hkm.lt
    simp [s77_1, e3, e17, e18, e19, h3, h3', addOff, hg, hc]
    rw [hlk]
    simp only [run_bin, kb_add, oV_some, w1, run_mup, hx, oH_some]
    simp [e19, w2]
    refine ⟨gs.length - (j + 1), by omega, j + 1, rfl, by omega, by rw [next_put]; exact hnx, fun k hk' => (get_put_ne hk').trans (hkp k hk'), ?_, by simp [e3], ⟨_, c, by simp [e17], fun _ => ⟨b, o, cs, rw', rfl, by rw [get_put_ne hbm]; exact hg, hcs⟩, hab⟩, by simp [e18], by simp, by simpa using eo⟩
    have := hx2 (H1.put mb x) (get_put_eq hl2)
    have hmem : ∀ g', g' ∈ gs.take (j + 1) ↔ g' ∈ gs.take j ∨ g' = g := fun g' => by
      rw [List.take_add_one, hgi, Option.toList_some, List.mem_append, List.mem_singleton]
    have hf : (fun k => if k = g then some (.int .i64 ((C g + 1 : Nat) : Int)) else cf (fun g => C g + if g ∈ gs.take j then 1 else 0) k) = cf fun g => C g + if g ∈ gs.take (j + 1) then 1 else 0 := by
      funext k
      have key : ∀ (n m : Nat), n = m → (if n = 0 then none else some (Value.int .i64 (n : Int))) = if m = 0 then none else some (Value.int .i64 (m : Int)) := by rintro n _ rfl; rfl
      by_cases e1 : k = g
      · rw [if_pos e1]
        have := key (C g + 1) (C k + if k ∈ gs.take (j + 1) then 1 else 0) (by rw [e1, if_pos ((hmem g).2 (.inr rfl))])
        rw [if_neg (by omega)] at this
        exact this
      · rw [if_neg e1]
        refine key _ _ ?_
        dsimp only
        by_cases e2 : k ∈ gs.take j
        · rw [if_pos e2, if_pos ((hmem k).2 (.inl e2))]
        · rw [if_neg e2, if_neg (fun h => ((hmem k).1 h).elim e2 e1)]
    rw [hf] at this
    exact this
  · obtain rfl : j = gs.length := by omega
    simp [s77_1, e18, e19]
    exact hQ _ _ ⟨by omega, by omega, hnx, hkp, hkm, by simp [e3], ⟨a, c, by simp [e17], hsv, hab⟩, by simp [e18], by simp [e19], by simpa using eo⟩
structure Of1 (H0 : Heap) (mb : Nat) (l : List Bytes) (v0 : Value) (d : Nat) (e : Fe) (H : Heap) (i : Nat) : Prop where
  h2 : d = l.length - i
  hi : i ≤ l.length
  kp : Kp H0.next H0 H
  hmb : mb = H0.next
  km : KMB (.s .str) encS H mb (cf (cntG (l.take i)))
  e3 : e 3 = .map (some mb)
  e10 : e 10 = v0
  e11 : e 11 = .int .i64 l.length
  e12 : e 12 = .int .i64 i
theorem of_t {a : Option Addr} {c : Nat} {l : List Bytes} (hl : Sv H a l) (hn : l.length ≤ 1000) (hsz : ∀ r ∈ l, r.length ≤ 100000) :
    Wf S 77 [.slice a l.length c] H fun v H' => Kp H.next H H' ∧ ∃ mb, v = .map (some mb) ∧ H.next ≤ mb ∧ MW H' mb (WG0 l) := by
  refine w77 rfl rfl _ ?_
  simp [s77]
  refine l77_0 S (fun d e H' => ∃ i, Of1 H H.next l (.slice a l.length c) d e H' i) l.length ⟨0, by omega, by omega, Kp.push (Nat.le_refl _), rfl, ?_, by simp, by simp, by simp, by simp⟩ ?_
  · have := KMB.empty (kk := .s .str) (enc := encS) (H := H.push (.map [] 0)) (b := H.next) (c := 0) get_last
    have hf : (fun _ : Bytes => (none : Option Value)) = cf (cntG (l.take 0)) := by funext g; simp [cf, cntG]
    rw [hf] at this; exact this
  rintro d e H1 ⟨i, rfl, hi, hk, hmb, hkm, e3, e10, e11, e12⟩
  have hlm := hkm.lt
  by_cases h3 : i < l.length
  · obtain ⟨b, o, cs, rw', rfl, hg, hcs⟩ := (hl.kp hk) (by omega)
    obtain ⟨r, hr⟩ : ∃ r, l[i]? = some r := ⟨_, List.getElem?_eq_getElem h3⟩
    have hcr := hcs i r hr
    have h3' : (i : Int) < l.length := by omega
    have hrl := hsz r (List.mem_of_getElem? hr)
    have hgl := gramsL_len r
    have w2 : IntKind.i64.wrap ((i : Int) + 1) = ((i + 1 : Nat) : Int) := by rw [wi (by omega) (by omega)]; omega
    simp [s77_0, e3, e10, e11, e12, h3, h3', addOff, hg, hcr]
    refine (grams_t' rfl rfl r hrl).mono ?_
    rintro v H2 ⟨hk2, hA⟩
    obtain ⟨a2, c2, rfl, hsv⟩ : ∃ a c, v = .slice a (gramsL r).length c ∧ (Sv H2 a (gramsL r) ∧ ∀ x, a = some x → x.block ≠ H.next) := by
      rcases hA with ⟨h1, h2, rfl⟩ | ⟨b, c, q1, q2, rfl, q4, q5, q6⟩
      · exact ⟨none, 0, by rw [h1], fun hp => by omega, fun x hx => by cases hx⟩
      · exact ⟨_, _, rfl, fun _ => ⟨b, 0, strs (gramsL r), true, rfl, q5, fun i x hx => by rw [Nat.zero_add]; exact strs_get hx⟩, fun x hx => by cases hx; simp only; omega⟩
    have hkm2 := hkm.get (hk2.2 _ hlm)
    simp
    refine of2_t (H0 := H2) (mb := H.next) (gs := gramsL r) (C := cntG (l.take i)) (E := e) (fun g => Nat.le_trans (cntG_le _ _) (by rw [List.length_take]; omega)) (gramsTo_nodup _ _) (by omega)
      ⟨by omega, by omega, rfl, fun _ _ => rfl, by simpa using hkm2, by simp [e3], ⟨a2, c2, by simp, hsv⟩, by simp, by simp, by simp⟩ ?_
    rintro e' H3 ⟨_, _, hn3, hk3, hkm3, f3, _, f18, f19, f10, f11, f12⟩
    rw [List.take_length] at hkm3
    have hC : (fun g => cntG (l.take i) g + if g ∈ gramsL r then 1 else 0) = cntG (l.take (i + 1)) := by
      funext g
      rw [cntG_next hr]
      simp [hasG]
    rw [hC] at hkm3
    rw [e12] at f12
    simp [f12, w2]
    refine ⟨l.length - (i + 1), by omega, i + 1, rfl, by omega, ⟨by rw [hn3]; exact Nat.le_trans hk.1 hk2.1, fun k hk' => ?_⟩, hmb, hkm3, by simp [f3], by simp [f10, e10], by simp [f11, e11], by simp⟩
    rw [hk3 k (by omega), hk2.2 k (by have := hk.1; omega)]; exact hk.2 k hk'
  · obtain rfl : i = l.length := by omega
    rw [List.take_length] at hkm
    obtain ⟨x, hx, hx2⟩ := hkm.dec enc_S (fun g v hv => by
      unfold cf at hv
      split at hv
      · cases hv
      · cases hv; exact ⟨_, rfl⟩)
    simp [s77_0, e3, e11, e12]
    rw [hx]
    simp only [oT_some]
    have hpn : (H1.push .dead).next = H1.next + 1 := by simp
    refine ⟨⟨by rw [next_put, hpn]; have := hk.1; omega, fun k hk' => by rw [get_put_ne (by omega), get_old (by have := hk.1; omega)]; exact hk.2 k hk'⟩, H.next, rfl, Nat.le_refl _, ⟨_, hx2 _ (get_put_eq (by rw [hpn]; omega)), fun g => ?_⟩⟩
    have hcl := cntG_le l g
    unfold cf WG0
    by_cases h : cntG l g = 0
    · simp [h]
    · have w1 : IntKind.i64.wrap ((cntG l g : Int) - 1) = ((cntG l g - 1 : Nat) : Int) := by rw [wi (by omega) (by omega)]; omega
      simp [h, decV, w1]
end
end Go.Proofs.Ytlboioplemlneaa.K
