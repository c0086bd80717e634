/- Codes of unlike lengths, in plain numbers: what is ahead of a symbol, and its code. -/
import Derived.Test.YtlboioplemlneaaGreatKF1
import Derived.Test.YtlboioplemlneaaGreatKLowSh2
import Derived.Test.YtlboioplemlneaaGreatKLowPrim
import Derived.Test.YtlboioplemlneaaGreatKF3
set_option linter.unusedVariables false
set_option linter.unusedSimpArgs false
namespace Go.Proofs.YtlboioplemlneaaGreat.K
def sumTo (f : Nat → Int) : Nat → Int
  | 0 => 0
  | n + 1 => sumTo f n + f n
theorem sumTo_congr {f g : Nat → Int} : ∀ n, (∀ k, k < n → f k = g k) → sumTo f n = sumTo g n
  | 0, _ => rfl
  | n + 1, h => by simp only [sumTo]; rw [sumTo_congr n fun k hk => h k (by omega), h n (by omega)]
theorem sumTo_le {f g : Nat → Int} : ∀ n, (∀ k, k < n → f k ≤ g k) → sumTo f n ≤ sumTo g n
  | 0, _ => by simp [sumTo]
  | n + 1, h => by
    simp only [sumTo]
    have := sumTo_le n fun k hk => h k (by omega)
    have := h n (by omega)
    omega
theorem sumTo_nonneg {f : Nat → Int} (n : Nat) (h : ∀ k, k < n → 0 ≤ f k) : 0 ≤ sumTo f n := by
  have := sumTo_le (f := fun _ => 0) (g := f) n h
  have hz : ∀ n, sumTo (fun _ => 0) n = 0 := by
    intro n
    induction n with
    | zero => rfl
    | succ n ih => simp [sumTo, ih]
  rw [hz] at this; exact this
theorem sumTo_add (f g : Nat → Int) : ∀ n, sumTo (fun k => f k + g k) n = sumTo f n + sumTo g n
  | 0 => by simp [sumTo]
  | n + 1 => by simp only [sumTo, sumTo_add f g n]; omega
theorem sumTo_mono {f : Nat → Int} {n m : Nat} (h : n ≤ m) (hf : ∀ k, k < m → 0 ≤ f k) : sumTo f n ≤ sumTo f m := by
  induction m with
  | zero => have : n = 0 := by omega
            subst this; exact Int.le_refl _
  | succ m ih =>
    by_cases hm : n = m + 1
    · subst hm; exact Int.le_refl _
    · have := ih (by omega) fun k hk => hf k (by omega)
      have := hf m (by omega)
      simp only [sumTo]; omega
/-- one place more in a sum -/
theorem sumTo_one {f g : Nat → Int} {i : Nat} {c : Int} : ∀ n, i < n → (∀ k, k < n → k ≠ i → f k ≤ g k) → f i + c ≤ g i → sumTo f n + c ≤ sumTo g n
  | 0, h, _, _ => by omega
  | n + 1, h, hf, hi => by
    simp only [sumTo]
    by_cases hn : i = n
    · subst hn
      have := sumTo_le (f := f) (g := g) i fun k hk => hf k (by omega) (by omega)
      omega
    · have := sumTo_one (f := f) (g := g) n (by omega) (fun k hk hne => hf k (by omega) hne) hi
      have := hf n (by omega) (by omega)
      omega
def p2 (n : Nat) : Int := 2 ^ n
theorem p2_pos (n : Nat) : 0 < p2 n := by unfold p2; exact Int.pow_pos (by omega)
theorem p2_succ (n : Nat) : p2 (n + 1) = 2 * p2 n := by unfold p2; rw [Int.pow_succ]; omega
theorem p2_add (a b : Nat) : p2 (a + b) = p2 a * p2 b := by unfold p2; exact Int.pow_add _ _ _
def at0 (l : List Int) (k : Nat) : Int := l.getD k 0
/-- of 2048 parts, those that a code of this length takes -/
def part (x : Int) : Int := p2 (11 - x).toNat
theorem part_pos (x : Int) : 0 < part x := p2_pos _
/-- the parts of all that is shorter, and of the first s that are as long -/
def before (l : List Int) (n : Int) (s : Nat) (k : Nat) : Int := if 0 < at0 l k ∧ (at0 l k < n ∨ at0 l k = n ∧ k < s) then part (at0 l k) else 0
theorem before_nonneg (l : List Int) (n : Int) (s k : Nat) : 0 ≤ before l n s k := by
  unfold before; split
  · exact Int.le_of_lt (part_pos _)
  · exact Int.le_refl _
def ahead (l : List Int) (n : Int) (s : Nat) : Int := sumTo (before l n s) l.length
def taken (l : List Int) (k : Nat) : Int := if 0 < at0 l k then part (at0 l k) else 0
def total (l : List Int) : Int := sumTo (taken l) l.length
theorem ahead_nonneg (l : List Int) (n : Int) (s : Nat) : 0 ≤ ahead l n s := sumTo_nonneg _ fun k _ => before_nonneg l n s k
theorem ahead_succ {l : List Int} {n : Int} {s : Nat} (h0 : 0 < n) (hs : s < l.length) : ahead l n (s + 1) = ahead l n s + if at0 l s = n then part n else 0 := by
  unfold ahead
  have key : ∀ m, sumTo (before l n (s + 1)) m = sumTo (before l n s) m + if s < m ∧ at0 l s = n then part n else 0 := by
    intro m
    induction m with
    | zero => simp [sumTo]
    | succ m ih =>
      simp only [sumTo, ih]
      have hb : before l n (s + 1) m = before l n s m + if m = s ∧ at0 l s = n then part n else 0 := by
        unfold before
        by_cases hm : m = s
        · subst hm
          by_cases hn : at0 l m = n
          · rw [hn]
            rw [if_pos (by omega), if_neg (by omega)]; simp
          · simp only [hn, and_false, if_false, Int.add_zero]
            congr 1
            simp [hn]
        · simp only [hm, false_and, if_false, Int.add_zero]
          congr 1
          have : (m < s + 1) = (m < s) := by apply propext; omega
          rw [this]
      rw [hb]
      by_cases hn : at0 l s = n
      · by_cases h1 : s < m
        · rw [if_pos ⟨h1, hn⟩, if_neg (by omega), if_pos ⟨by omega, hn⟩]; omega
        · by_cases h2 : m = s
          · rw [if_neg (by omega), if_pos ⟨h2, hn⟩, if_pos ⟨by omega, hn⟩]; omega
          · rw [if_neg (by omega), if_neg (by omega), if_neg (by omega)]; omega
      · simp [hn]
  rw [key]
  simp [hs]
theorem ahead_next {l : List Int} {n : Int} : ahead l (n + 1) 0 = ahead l n l.length := by
  unfold ahead
  refine sumTo_congr _ fun k hk => ?_
  unfold before
  congr 1
  apply propext
  constructor
  · rintro ⟨h1, h2⟩; exact ⟨h1, by omega⟩
  · rintro ⟨h1, h2⟩; exact ⟨h1, by omega⟩
theorem ahead_start (l : List Int) : ahead l 1 0 = 0 := by
  unfold ahead
  have : sumTo (before l 1 0) l.length = sumTo (fun _ => 0) l.length := sumTo_congr _ fun k _ => by
    unfold before; rw [if_neg (by omega)]
  rw [this]
  have hz : ∀ n, sumTo (fun _ => 0) n = 0 := by
    intro n
    induction n with
    | zero => rfl
    | succ n ih => simp [sumTo, ih]
  exact hz _
theorem ahead_total (l : List Int) (n : Int) (s : Nat) : ahead l n s ≤ total l := by
  refine sumTo_le _ fun k _ => ?_
  unfold before taken
  split
  · rename_i h; rw [if_pos h.1]; exact Int.le_refl _
  · split
    · exact Int.le_of_lt (part_pos _)
    · exact Int.le_refl _
/-- one that is ahead of another one takes its own part ahead of that -/
theorem ahead_lt {l : List Int} {i k : Nat} (hi : i < l.length) (hp : 0 < at0 l i) (h : at0 l i < at0 l k ∨ at0 l i = at0 l k ∧ i < k) : ahead l (at0 l i) i + part (at0 l i) ≤ ahead l (at0 l k) k := by
  refine sumTo_one _ hi (fun j _ hj => ?_) ?_
  · unfold before
    by_cases h1 : 0 < at0 l j ∧ (at0 l j < at0 l i ∨ at0 l j = at0 l i ∧ j < i)
    · rw [if_pos h1, if_pos ⟨h1.1, by omega⟩]; exact Int.le_refl _
    · rw [if_neg h1]
      split
      · exact Int.le_of_lt (part_pos _)
      · exact Int.le_refl _
  · unfold before
    rw [if_neg (by omega), if_pos ⟨hp, h⟩]; omega
theorem ahead_end {l : List Int} {i : Nat} (hi : i < l.length) (hp : 0 < at0 l i) : ahead l (at0 l i) i + part (at0 l i) ≤ total l := by
  refine sumTo_one _ hi (fun j _ hj => ?_) ?_
  · unfold before taken
    by_cases h1 : 0 < at0 l j ∧ (at0 l j < at0 l i ∨ at0 l j = at0 l i ∧ j < i)
    · rw [if_pos h1, if_pos h1.1]; exact Int.le_refl _
    · rw [if_neg h1]
      split
      · exact Int.le_of_lt (part_pos _)
      · exact Int.le_refl _
  · unfold before taken
    rw [if_neg (by omega), if_pos hp]; omega
/-- the code that is next, as the program reckons it -/
def codeAt (l : List Int) : Nat → Nat → Int
  | 0, _ => 0
  | n + 1, 0 => 2 * codeAt l n l.length
  | n + 1, s + 1 => codeAt l (n + 1) s + if at0 l s = n + 1 then 1 else 0
theorem codeAt_ahead {l : List Int} : ∀ (n : Nat), 1 ≤ n → n ≤ 11 → ∀ s, s ≤ l.length → codeAt l n s * part n = ahead l n s := by
  intro n
  induction n with
  | zero => intro h; omega
  | succ n ih =>
    intro _ hn s
    induction s with
    | zero =>
      intro _
      by_cases h0 : n = 0
      · subst h0
        have := ahead_start l
        simp only [codeAt]
        simpa using this.symm
      · have := ih (by omega) (by omega) l.length (Nat.le_refl _)
        simp only [codeAt]
        have e1 : ((n + 1 : Nat) : Int) = (n : Int) + 1 := by omega
        rw [e1, ahead_next, ← this]
        have e2 : part (n : Int) = 2 * part ((n : Int) + 1) := by
          unfold part
          rw [show (11 - (n : Int)).toNat = (11 - ((n : Int) + 1)).toNat + 1 by omega, p2_succ]
        rw [e2, Int.mul_comm 2 (codeAt l n l.length), Int.mul_assoc]
    | succ s ihs =>
      intro hs
      have h1 := ihs (by omega)
      have h2 := ahead_succ (l := l) (n := ((n + 1 : Nat) : Int)) (s := s) (by omega) (by omega)
      rw [h2, ← h1]
      simp only [codeAt]
      rw [Int.add_mul]
      congr 1
      have e1 : ((n + 1 : Nat) : Int) = (n : Int) + 1 := by omega
      rw [e1]
      split <;> simp
/-- the code of a symbol -/
def codeOf (l : List Int) (i : Nat) : Int := if 0 < at0 l i then codeAt l (at0 l i).toNat i else 0
theorem codeOf_div {l : List Int} {i : Nat} (hi : i < l.length) (h0 : 0 < at0 l i) (h1 : at0 l i ≤ 11) : codeOf l i = ahead l (at0 l i) i / part (at0 l i) ∧ codeOf l i * part (at0 l i) = ahead l (at0 l i) i := by
  have h := codeAt_ahead (l := l) (at0 l i).toNat (by omega) (by omega) i (by omega)
  have e : (((at0 l i).toNat : Nat) : Int) = at0 l i := by omega
  rw [e] at h
  unfold codeOf
  rw [if_pos h0]
  refine ⟨?_, h⟩
  rw [← h, Int.mul_ediv_cancel _ (by have := part_pos (at0 l i); omega)]
theorem p2_mono {a b : Nat} (h : a ≤ b) : p2 a ≤ p2 b := by
  obtain ⟨c, rfl⟩ := Nat.exists_eq_add_of_le h
  rw [p2_add]
  have h1 := p2_pos a
  have h2 := p2_pos c
  have : p2 a * 1 ≤ p2 a * p2 c := Int.mul_le_mul_of_nonneg_left (by omega) (by omega)
  omega
theorem part_le {x : Int} (h : 1 ≤ x) : part x ≤ 1024 := by
  have := p2_mono (a := (11 - x).toNat) (b := 10) (by omega)
  have e : p2 10 = 1024 := by decide
  unfold part; omega
theorem part_one {x : Int} (h1 : 1 ≤ x) (h2 : x ≤ 11) : part x = 1024 ↔ x = 1 := by
  constructor
  · intro h
    rcases Int.lt_or_le 1 x with h3 | h3
    · have := p2_mono (a := (11 - x).toNat) (b := 9) (by omega)
      have e : p2 9 = 512 := by decide
      unfold part at h; omega
    · omega
  · rintro rfl; decide
def cntP (l : List Int) : Nat → Int
  | 0 => 0
  | i + 1 => cntP l i + if 0 < at0 l i then 1 else 0
def oneAt (l : List Int) : Nat → Bool
  | 0 => false
  | i + 1 => if 0 < at0 l i then decide (at0 l i = 1) else oneAt l i
theorem cntP_bd (l : List Int) : ∀ i, 0 ≤ cntP l i ∧ cntP l i ≤ i
  | 0 => by simp [cntP]
  | i + 1 => by have := cntP_bd l i; simp only [cntP]; split <;> omega
theorem tot_bd {l : List Int} (i : Nat) (h : ∀ k, k < i → at0 l k ≤ 11) : 0 ≤ sumTo (taken l) i ∧ sumTo (taken l) i ≤ 1024 * i := by
  induction i with
  | zero => simp [sumTo]
  | succ i ih =>
    have h1 := ih fun k hk => h k (by omega)
    have h2 : 0 ≤ taken l i ∧ taken l i ≤ 1024 := by
      unfold taken
      split
      · exact ⟨Int.le_of_lt (part_pos _), part_le (by omega)⟩
      · omega
    simp only [sumTo]; omega
theorem one_tot {l : List Int} : ∀ i, (∀ k, k < i → at0 l k ≤ 11) → (cntP l i = 0 → sumTo (taken l) i = 0) ∧ (cntP l i = 1 → ∃ x, 1 ≤ x ∧ x ≤ 11 ∧ sumTo (taken l) i = part x ∧ oneAt l i = decide (x = 1))
  | 0, _ => ⟨fun _ => rfl, fun h => by simp [cntP] at h⟩
  | i + 1, h => by
    obtain ⟨h1, h2⟩ := one_tot i fun k hk => h k (by omega)
    have hb := cntP_bd l i
    simp only [cntP, sumTo, oneAt, taken]
    by_cases hp : 0 < at0 l i
    · simp only [hp, if_true]
      refine ⟨fun h3 => by omega, fun h3 => ⟨at0 l i, by omega, h i (by omega), ?_, rfl⟩⟩
      rw [h1 (by omega)]; omega
    · simp only [hp, if_false, Int.add_zero]
      exact ⟨h1, h2⟩
def rightB (l : List Int) : Bool := l.all (fun x => decide (0 ≤ x) && decide (x ≤ 11)) && decide (l.length ≤ 256)
def wholeB (l : List Int) : Bool := rightB l && (decide (total l = 2048) || (decide (cntP l l.length = 1) && decide (total l = 1024)))
theorem right_at {l : List Int} (h : l.all (fun x => decide (0 ≤ x) && decide (x ≤ 11)) = true) (k : Nat) : 0 ≤ at0 l k ∧ at0 l k ≤ 11 := by
  unfold at0
  rw [List.getD_eq_getElem?_getD]
  cases hx : l[k]? with
  | none => simp
  | some x =>
    rw [List.all_eq_true] at h
    have := h x (List.mem_of_getElem? hx)
    simpa using this
theorem whole_prog {l : List Int} (h : rightB l = true) : (decide (2048 - total l = 0) || (decide (cntP l l.length = 1) && oneAt l l.length)) = (decide (total l = 2048) || (decide (cntP l l.length = 1) && decide (total l = 1024))) := by
  simp only [rightB, Bool.and_eq_true] at h
  have h1 := right_at h.1
  have h2 : decide (2048 - total l = 0) = decide (total l = 2048) := by
    congr 1; apply propext; omega
  rw [h2]
  congr 1
  by_cases hc : cntP l l.length = 1
  · obtain ⟨x, a, b, c, d⟩ := (one_tot l.length fun k _ => (h1 k).2).2 hc
    have e : (total l = 1024) = (x = 1) := by
      apply propext
      rw [total, c]; exact part_one a b
    simp only [d, e]
  · simp [hc]
end Go.Proofs.YtlboioplemlneaaGreat.K
/- Codes of unlike lengths: whether lengths may be, and whether they are whole, by the program and by the document. -/
set_option maxRecDepth 100000
set_option maxHeartbeats 2000000
set_option linter.unusedVariables false
set_option linter.unusedSimpArgs false
namespace Go.Proofs.YtlboioplemlneaaGreat.K
open Go Go.Proofs
def S : Sys := ⟨F, M, R⟩
theorem S_ok : SysOK Go.Proofs.Tryz.prog S := ⟨M_ok, by kernel_rfl, F_ok, R_ok⟩
/-- whole numbers that may be read -/
def Iv (H : Heap) (a : Option Addr) (l : List Int) : Prop := 0 < l.length → ∃ b o cs rw, a = some ⟨b, o, none⟩ ∧ H.get b = .cells cs 3 rw ∧ ∀ (i : Nat) x, l[i]? = some x → cs[o + i]? = some (.int .i64 x)
theorem Iv.kp {H H' : Heap} {a : Option Addr} {l : List Int} (h : Iv H a l) (hk : Kp H.next H H') : Iv H' a l := fun hp => by
  obtain ⟨b, o, cs, rw, h1, h2, h3⟩ := h hp
  exact ⟨b, o, cs, rw, h1, (hk.2 b (lt_cells h2)).trans h2, h3⟩
def okL (x : Int) : Bool := decide (0 ≤ x) && decide (x ≤ 11)
def AllOk (l : List Int) : Prop := l.all okL = true
theorem all_succ {p : Int → Bool} {l : List Int} {i : Nat} {x : Int} (h : l[i]? = some x) : (l.take (i + 1)).all p = ((l.take i).all p && p x) := by
  rw [List.take_add_one, h]; simp
theorem all_no {p : Int → Bool} {l : List Int} {i : Nat} {x : Int} (h : l[i]? = some x) (hp : p x = false) : l.all p = false := by
  rw [List.all_eq_false]
  exact ⟨x, List.mem_of_getElem? h, by simp [hp]⟩
theorem rightB_no {l : List Int} {i : Nat} {x : Int} (h : l[i]? = some x) (hp : okL x = false) : rightB l = false := by
  have : l.all (fun x => decide (0 ≤ x) && decide (x ≤ 11)) = false := all_no h hp
  simp only [rightB, this, Bool.false_and]
section
variable {H : Heap} {a : Option Addr} {c : Nat} {l : List Int}
theorem right_t (hl : Iv H a l) (hm : (l.length : Int) ≤ 9223372036854775807) : Wf S 87 [.slice a l.length c] H fun v H' => H' = H ∧ v = .bool (rightB l) := by
  refine w87 rfl rfl _ ?_
  simp [s87]
  refine l87_0 S (fun d e H' => ∃ i : Nat, i ≤ l.length ∧ d = l.length - i ∧ H' = H ∧ e 0 = .slice a l.length c ∧ e 5 = .slice a l.length c ∧ e 6 = .int .i64 l.length ∧ e 7 = .int .i64 i ∧ AllOk (l.take i)) l.length ⟨0, by omega, by omega, rfl, by simp, by simp, by simp, by simp, rfl⟩ ?_
  rintro d e H' ⟨i, hi, rfl, rfl, e0, e5, e6, e7, hok⟩
  by_cases h3 : i < l.length
  · obtain ⟨b, o, cs, rw, rfl, hg, hc⟩ := hl (by omega)
    obtain ⟨x, hx⟩ : ∃ x, l[i]? = some x := ⟨_, List.getElem?_eq_getElem h3⟩
    have hcx := hc i x hx
    have hw : IntKind.i64.wrap ((i : Int) + 1) = (i : Int) + 1 := wi (by omega) (by omega)
    by_cases g1 : x < 0
    · simp [s87_0, e5, e6, e7, h3, addOff, hg, hcx, g1]
      exact rightB_no hx (by simp [okL]; omega)
    by_cases g2 : 11 < x
    · simp [s87_0, e5, e6, e7, h3, addOff, hg, hcx, g1, g2]
      exact rightB_no hx (by simp [okL]; omega)
    · simp [s87_0, e5, e6, e7, h3, addOff, hg, hcx, g1, g2, hw]
      refine ⟨l.length - (i + 1), by omega, i + 1, by omega, rfl, e0, by simp, ?_⟩
      unfold AllOk at *
      rw [all_succ hx, hok]; simp [okL]; omega
  · have h5 : i = l.length := by omega
    subst h5
    have hok' : l.all (fun x => decide (0 ≤ x) && decide (x ≤ 11)) = true := by unfold AllOk at hok; rw [List.take_length] at hok; exact hok
    simp [s87_0, e0, e6, e7]
    simp only [rightB, hok', Bool.true_and]
    congr 1; apply propext; omega
theorem rright_t (hl : Iv H a l) (hm : (l.length : Int) ≤ 9223372036854775807) : Wf S 63 [.slice a l.length c] H fun v H' => H' = H ∧ v = .bool (rightB l) := by
  refine w63 rfl rfl _ ?_
  simp [s63]
  refine l63_0 S (fun d e H' => ∃ i : Nat, i ≤ l.length ∧ d = l.length - i ∧ H' = H ∧ e 0 = .slice a l.length c ∧ e 3 = .int .i64 i ∧ AllOk (l.take i)) l.length ⟨0, by omega, by omega, rfl, by simp, by simp, rfl⟩ ?_
  rintro d e H' ⟨i, hi, rfl, rfl, e0, e3, hok⟩
  by_cases h3 : i < l.length
  · obtain ⟨b, o, cs, rw, rfl, hg, hc⟩ := hl (by omega)
    obtain ⟨x, hx⟩ : ∃ x, l[i]? = some x := ⟨_, List.getElem?_eq_getElem h3⟩
    have hcx := hc i x hx
    have hw : IntKind.i64.wrap ((i : Int) + 1) = (i : Int) + 1 := wi (by omega) (by omega)
    by_cases g1 : x < 0
    · simp [s63_0, e0, e3, h3, addOff, hg, hcx, g1]
      exact rightB_no hx (by simp [okL]; omega)
    by_cases g2 : 11 < x
    · simp [s63_0, e0, e3, h3, addOff, hg, hcx, g1, g2]
      exact rightB_no hx (by simp [okL]; omega)
    · simp [s63_0, e0, e3, h3, addOff, hg, hcx, g1, g2, hw]
      refine ⟨l.length - (i + 1), by omega, i + 1, by omega, rfl, by simp, ?_⟩
      unfold AllOk at *
      rw [all_succ hx, hok]; simp [okL]; omega
  · have h5 : i = l.length := by omega
    subst h5
    have hok' : l.all (fun x => decide (0 ≤ x) && decide (x ≤ 11)) = true := by unfold AllOk at hok; rw [List.take_length] at hok; exact hok
    simp [s63_0, e0, e3]
    simp only [rightB, hok', Bool.true_and]
    congr 1; apply propext; omega
theorem Size_t (H : Heap) (n : Nat) (h1 : n ≤ 30) : Wf S 64 [.int .i64 n] H fun v H' => H' = H ∧ v = .int .i64 (p2 n) := by
  refine w64 rfl rfl _ ?_
  simp [s64]
  refine l64_0 S (fun d e H' => ∃ i : Nat, i ≤ n ∧ d = n - i ∧ H' = H ∧ e 0 = .int .i64 n ∧ e 3 = .int .i64 (p2 i) ∧ e 4 = .int .i64 i) n ⟨0, by omega, by omega, rfl, by simp, by simp [p2], by simp⟩ ?_
  rintro d e H' ⟨i, hi, rfl, rfl, e0, e3, e4⟩
  by_cases h3 : i < n
  · have hw : IntKind.i64.wrap ((i : Int) + 1) = (i : Int) + 1 := wi (by omega) (by omega)
    have hb : p2 i ≤ p2 30 := p2_mono (by omega)
    have hp := p2_pos i
    have e30 : p2 30 = 1073741824 := by decide
    have hw2 : IntKind.i64.wrap (p2 i * 2) = p2 i * 2 := wi (by omega) (by omega)
    simp [s64_0, e0, e3, e4, h3, hw, hw2]
    exact ⟨n - (i + 1), by omega, i + 1, by omega, rfl, by rw [p2_succ]; omega, by omega⟩
  · have h5 : i = n := by omega
    subst h5
    simp [s64_0, e0, e3, e4]
theorem kb_shl {k k' : IntKind} {a b : Int} : kBin .shl (.int k a) (.int k' b) = if b < 0 then none else some (.int k (k.wrap (a * 2 ^ (min b.toNat k.bits)))) := rfl
theorem kb_shr {k k' : IntKind} {a b : Int} : kBin .shr (.int k a) (.int k' b) = if b < 0 then none else some (.int k (a.fdiv (2 ^ (min b.toNat k.bits)))) := rfl
theorem right_len {l : List Int} (h : rightB l = true) : l.length ≤ 256 := by
  simp only [rightB, Bool.and_eq_true, decide_eq_true_eq] at h; exact h.2
theorem right_all {l : List Int} (h : rightB l = true) (k : Nat) : 0 ≤ at0 l k ∧ at0 l k ≤ 11 := by
  simp only [rightB, Bool.and_eq_true] at h; exact right_at h.1 k
theorem at0_of {l : List Int} {i : Nat} {x : Int} (h : l[i]? = some x) : at0 l i = x := by
  unfold at0; rw [List.getD_eq_getElem?_getD, h]; rfl
theorem shl_part {x : Int} (h0 : 0 ≤ x) (h1 : x ≤ 11) : IntKind.i64.wrap (1 * 2 ^ (min (11 - x).toNat IntKind.i64.bits)) = part x := by
  have e : min (11 - x).toNat IntKind.i64.bits = (11 - x).toNat := by
    have : IntKind.i64.bits = 64 := rfl
    omega
  rw [e, Int.one_mul]
  have h2 : p2 (11 - x).toNat ≤ p2 11 := p2_mono (by omega)
  have h3 : p2 11 = 2048 := by decide
  have h4 := p2_pos (11 - x).toNat
  have : (2 : Int) ^ (11 - x).toNat = p2 (11 - x).toNat := rfl
  rw [this, wi (by omega) (by omega)]; rfl
end
end Go.Proofs.YtlboioplemlneaaGreat.K
/- Codes of unlike lengths: whether lengths are whole, by the program and by the document. -/
set_option maxRecDepth 100000
set_option maxHeartbeats 2000000
set_option linter.unusedVariables false
set_option linter.unusedSimpArgs false
namespace Go.Proofs.YtlboioplemlneaaGreat.K
open Go Go.Proofs
section
variable {H : Heap} {a : Option Addr} {c : Nat} {l : List Int}
theorem Whole_t (hl : Iv H a l) (hm : (l.length : Int) ≤ 9223372036854775807) : Wf S 57 [.slice a l.length c] H fun v H' => H' = H ∧ v = .bool (wholeB l) := by
  refine w57 rfl rfl _ ?_
  simp [s57]
  refine (right_t hl hm).mono ?_
  rintro v H1 ⟨rfl, rfl⟩
  by_cases hr : rightB l = true
  · have hlen := right_len hr
    have hall := right_all hr
    simp [hr]
    refine l57_0 S (fun d e H' => ∃ i : Nat, i ≤ l.length ∧ d = l.length - i ∧ H' = H1 ∧ e 3 = .int .i64 (2048 - sumTo (taken l) i) ∧ e 4 = .int .i64 (cntP l i) ∧ e 5 = .bool (oneAt l i) ∧ e 11 = .slice a l.length c ∧ e 12 = .int .i64 l.length ∧ e 13 = .int .i64 i) l.length ⟨0, by omega, by omega, rfl, by simp [sumTo], by simp [cntP], by simp [oneAt], by simp, by simp, by simp⟩ ?_
    rintro d e H' ⟨i, hi, rfl, rfl, e3, e4, e5, e11, e12, e13⟩
    by_cases h3 : i < l.length
    · obtain ⟨b, o, cs, rw, rfl, hg, hc⟩ := hl (by omega)
      obtain ⟨x, hx⟩ : ∃ x, l[i]? = some x := ⟨_, List.getElem?_eq_getElem h3⟩
      have hcx := hc i x hx
      have hax := at0_of hx
      have hxb := hall i
      rw [hax] at hxb
      have hw : IntKind.i64.wrap ((i : Int) + 1) = (i : Int) + 1 := wi (by omega) (by omega)
      have htb := tot_bd (l := l) i fun k _ => (hall k).2
      have hcb := cntP_bd l i
      by_cases g1 : 0 < x
      · have hpl : part x ≤ 1024 := part_le (by omega)
        have hpp := part_pos x
        have hw2 : IntKind.i64.wrap (11 - x) = 11 - x := wi (by omega) (by omega)
        have hw3 : IntKind.i64.wrap (cntP l i + 1) = cntP l i + 1 := wi (by omega) (by omega)
        have hw4 : IntKind.i64.wrap (2048 - sumTo (taken l) i - part x) = 2048 - sumTo (taken l) i - part x := wi (by omega) (by omega)
        have hsh := shl_part hxb.1 hxb.2
        have hn : ¬ (11 - x < 0) := by omega
        have hn2 : ¬ 11 < x := by omega
        simp only [Int.one_mul] at hsh
        simp [s57_0, e3, e4, e5, e11, e12, e13, h3, addOff, hg, hcx, g1, hw, hw2, hw3, kb_shl, hn, hn2, hsh, hw4]
        refine ⟨l.length - (i + 1), by omega, i + 1, by omega, rfl, ?_, ?_, ?_, by simp⟩
        · simp only [sumTo, taken, hax, g1, if_true]; omega
        · simp [cntP, hax, g1]
        · simp [oneAt, hax, g1]
      · simp [s57_0, e3, e4, e5, e11, e12, e13, h3, addOff, hg, hcx, g1, hw]
        refine ⟨l.length - (i + 1), by omega, i + 1, by omega, rfl, ?_, ?_, ?_, by simp⟩
        · simp [sumTo, taken, hax, g1]
        · simp [cntP, hax, g1]
        · simp [oneAt, hax, g1]
    · have h5 : i = l.length := by omega
      subst h5
      have hwp := whole_prog hr
      have hw : wholeB l = (decide (total l = 2048) || (decide (cntP l l.length = 1) && decide (total l = 1024))) := by simp only [wholeB, hr, Bool.true_and]
      rw [← hwp] at hw
      have ht : sumTo (taken l) l.length = total l := rfl
      by_cases q1 : 2048 - total l = 0
      · simp [s57_0, e3, e4, e5, e12, e13, ht, q1, hw]
      · by_cases q2 : cntP l l.length = 1
        · simp [s57_0, e3, e4, e5, e12, e13, ht, q1, q2, hw]
        · simp [s57_0, e3, e4, e5, e12, e13, ht, q1, q2, hw]
  · have : wholeB l = false := by simp [wholeB, hr]
    simp [hr, this]
theorem rWhole_t (hl : Iv H a l) (hm : (l.length : Int) ≤ 9223372036854775807) : Wf S 35 [.slice a l.length c] H fun v H' => H' = H ∧ v = .bool (wholeB l) := by
  refine w35 rfl rfl _ ?_
  simp [s35]
  refine (rright_t hl hm).mono ?_
  rintro v H1 ⟨rfl, rfl⟩
  by_cases hr : rightB l = true
  · have hlen := right_len hr
    have hall := right_all hr
    simp [hr]
    refine l35_0 S (fun d e H' => ∃ i : Nat, i ≤ l.length ∧ d = l.length - i ∧ H' = H1 ∧ e 0 = .slice a l.length c ∧ e 3 = .int .i64 (sumTo (taken l) i) ∧ e 4 = .int .i64 (cntP l i) ∧ e 5 = .int .i64 i) l.length ⟨0, by omega, by omega, rfl, by simp, by simp [sumTo], by simp [cntP], by simp⟩ ?_
    rintro d e H' ⟨i, hi, rfl, rfl, e0, e3, e4, e5⟩
    by_cases h3 : i < l.length
    · obtain ⟨b, o, cs, rw, rfl, hg, hc⟩ := hl (by omega)
      obtain ⟨x, hx⟩ : ∃ x, l[i]? = some x := ⟨_, List.getElem?_eq_getElem h3⟩
      have hcx := hc i x hx
      have hax := at0_of hx
      have hxb := hall i
      rw [hax] at hxb
      have hw : IntKind.i64.wrap ((i : Int) + 1) = (i : Int) + 1 := wi (by omega) (by omega)
      have htb := tot_bd (l := l) i fun k _ => (hall k).2
      have hcb := cntP_bd l i
      by_cases g1 : 0 < x
      · have hpl : part x ≤ 1024 := part_le (by omega)
        have hpp := part_pos x
        have hw2 : IntKind.i64.wrap (11 - x) = ((11 - x).toNat : Int) := by rw [wi (by omega) (by omega)]; omega
        have hw3 : IntKind.i64.wrap (cntP l i + 1) = cntP l i + 1 := wi (by omega) (by omega)
        have hw4 : IntKind.i64.wrap (sumTo (taken l) i + part x) = sumTo (taken l) i + part x := wi (by omega) (by omega)
        simp only [s35_0, e0, e3, e4, e5]
        simp [h3, addOff, hg, hcx, g1, e0, e3, e4, e5]
        rw [hw2]
        refine (Size_t H' (11 - x).toNat (by omega)).mono ?_
        rintro v H2 ⟨rfl, rfl⟩
        have hpe : p2 (11 - x).toNat = part x := rfl
        simp [e3, e4, e5, hpe, hw, hw3, hw4]
        refine ⟨l.length - (i + 1), by omega, i + 1, by omega, rfl, ?_, ?_, by simp⟩
        · simp [sumTo, taken, hax, g1]
        · simp [cntP, hax, g1]
      · simp [s35_0, e0, e3, e4, e5, h3, addOff, hg, hcx, g1, hw]
        refine ⟨l.length - (i + 1), by omega, i + 1, by omega, rfl, ?_, ?_, by simp⟩
        · simp [sumTo, taken, hax, g1]
        · simp [cntP, hax, g1]
    · have h5 : i = l.length := by omega
      subst h5
      have hw : wholeB l = (decide (total l = 2048) || (decide (cntP l l.length = 1) && decide (total l = 1024))) := by simp only [wholeB, hr, Bool.true_and]
      have ht : sumTo (taken l) l.length = total l := rfl
      by_cases q1 : total l = 2048
      · simp [s35_0, e0, e3, e4, e5, ht, q1, hw]
      · by_cases q2 : cntP l l.length = 1
        · simp [s35_0, e0, e3, e4, e5, ht, q1, q2, hw]
        · simp [s35_0, e0, e3, e4, e5, ht, q1, q2, hw]
  · have : wholeB l = false := by simp [wholeB, hr]
    simp [hr, this]
end
end Go.Proofs.YtlboioplemlneaaGreat.K
/- Codes of unlike lengths: the codes, by the program and by the document. -/
set_option maxRecDepth 100000
set_option maxHeartbeats 2000000
set_option linter.unusedVariables false
set_option linter.unusedSimpArgs false
namespace Go.Proofs.YtlboioplemlneaaGreat.K
open Go Go.Proofs
theorem ite_iff {p q : Prop} [Decidable p] [Decidable q] {x y : Int} (h1 : p → q) (h2 : q → p) : (if p then x else y) = if q then x else y := by
  by_cases hp : p
  · rw [if_pos hp, if_pos (h1 hp)]
  · rw [if_neg hp, if_neg fun hq => hp (h2 hq)]
def ints (l : List Int) : List Value := l.map (.int .i64)
/-- what is laid so far: of the symbols as long as n, the first s -/
def laidAt (l : List Int) (n : Nat) (s : Nat) : List Int := (List.range l.length).map fun k => if 0 < at0 l k ∧ (at0 l k < n ∨ at0 l k = n ∧ k < s) then codeOf l k else 0
def codes (l : List Int) : List Int := (List.range l.length).map (codeOf l)
theorem laidAt_len (l : List Int) (n s : Nat) : (laidAt l n s).length = l.length := by simp [laidAt]
theorem laidAt_get {l : List Int} {n s k : Nat} (hk : k < l.length) : (laidAt l n s)[k]? = some (if 0 < at0 l k ∧ (at0 l k < n ∨ at0 l k = n ∧ k < s) then codeOf l k else 0) := by
  simp [laidAt, hk]
theorem laidAt_succ {l : List Int} {n s : Nat} (hs : s < l.length) (hn : 0 < n) : laidAt l n (s + 1) = if at0 l s = n then (laidAt l n s).set s (codeAt l n s) else laidAt l n s := by
  apply List.ext_getElem?
  intro k
  by_cases hk : k < l.length
  · rw [laidAt_get hk]
    by_cases he : at0 l s = n
    · rw [if_pos he, List.getElem?_set]
      by_cases h : s = k
      · subst h
        rw [if_pos rfl, if_pos (show s < (laidAt l n s).length by rw [laidAt_len]; exact hs)]
        rw [if_pos (show 0 < at0 l s ∧ (at0 l s < n ∨ at0 l s = n ∧ s < s + 1) by omega)]
        unfold codeOf
        rw [if_pos (show 0 < at0 l s by omega), he]; simp
      · rw [if_neg h, laidAt_get hk]
        congr 1
        exact ite_iff (fun hh => by omega) (fun hh => by omega)
    · rw [if_neg he, laidAt_get hk]
      congr 1
      by_cases h : k = s
      · subst h
        have : ¬ (at0 l k = n ∧ k < k + 1) := fun e => he e.1
        have h2 : ¬ (at0 l k = n ∧ k < k) := fun e => he e.1
        simp only [this, h2]
      · exact ite_iff (fun hh => by omega) (fun hh => by omega)
  · have h1 : l.length ≤ k := by omega
    rw [List.getElem?_eq_none (by rw [laidAt_len]; exact h1)]
    by_cases he : at0 l s = n
    · rw [if_pos he, List.getElem?_eq_none (by rw [List.length_set, laidAt_len]; exact h1)]
    · rw [if_neg he, List.getElem?_eq_none (by rw [laidAt_len]; exact h1)]
theorem laidAt_next (l : List Int) (n : Nat) : laidAt l (n + 1) 0 = laidAt l n l.length := by
  unfold laidAt
  refine List.map_congr_left fun k hk => ?_
  have hk' : k < l.length := by simpa using hk
  congr 1
  apply propext
  constructor
  · rintro ⟨h1, h2⟩; exact ⟨h1, by omega⟩
  · rintro ⟨h1, h2⟩; exact ⟨h1, by omega⟩
theorem laidAt_start (l : List Int) : laidAt l 1 0 = List.replicate l.length 0 := by
  apply List.ext_getElem?
  intro k
  by_cases hk : k < l.length
  · rw [laidAt_get hk, if_neg (by omega)]; simp [hk]
  · rw [List.getElem?_eq_none (by rw [laidAt_len]; omega), List.getElem?_eq_none (by simp; omega)]
theorem laidAt_end {l : List Int} (h : ∀ k, at0 l k ≤ 11) : laidAt l 12 0 = codes l := by
  apply List.ext_getElem?
  intro k
  by_cases hk : k < l.length
  · rw [laidAt_get hk]
    simp only [codes, List.getElem?_map, List.getElem?_range hk, Option.map_some]
    congr 1
    have := h k
    by_cases hp : 0 < at0 l k
    · rw [if_pos ⟨hp, by omega⟩]
    · rw [if_neg (by omega)]; unfold codeOf; rw [if_neg hp]
  · rw [List.getElem?_eq_none (by rw [laidAt_len]; omega), List.getElem?_eq_none (by simp [codes]; omega)]
theorem code_bd {l : List Int} (h : ∀ k, 0 ≤ at0 l k ∧ at0 l k ≤ 11) (hl : l.length ≤ 256) {n s : Nat} (h1 : 1 ≤ n) (h2 : n ≤ 11) (hs : s ≤ l.length) : 0 ≤ codeAt l n s ∧ codeAt l n s ≤ 262144 := by
  have he := codeAt_ahead (l := l) n h1 h2 s hs
  have ha := ahead_nonneg l n s
  have ht := ahead_total l n s
  have hb := tot_bd (l := l) l.length fun k _ => (h k).2
  have hp := part_pos (n : Int)
  have ht2 : total l = sumTo (taken l) l.length := rfl
  constructor
  · rcases Int.lt_or_le (codeAt l n s) 0 with h3 | h3
    · have : codeAt l n s * part n < 0 := Int.mul_neg_of_neg_of_pos h3 hp
      omega
    · exact h3
  · rcases Int.lt_or_le 262144 (codeAt l n s) with h3 | h3
    · have h4 : codeAt l n s * 1 ≤ codeAt l n s * part n := Int.mul_le_mul_of_nonneg_left (by omega) (by omega)
      omega
    · exact h3
/-- numbers in a block of their own -/
def Own (H : Heap) (b : Nat) (l : List Int) : Prop := H.get b = .cells (ints l) 3 true
section
variable {H : Heap} {a : Option Addr} {c : Nat} {l : List Int}
structure CI (N : Nat) (H0 : Heap) (a : Option Addr) (c : Nat) (l : List Int) (n s : Nat) (e : Fe) (H : Heap) : Prop where
  kp : Kp N H0 H
  own : Own H N (laidAt l n s)
  e0 : e 0 = .slice a l.length c
  e4 : e 4 = .slice (some ⟨N, 0, none⟩) l.length l.length
  e5 : e 5 = .int .i64 (codeAt l n s)
  e6 : e 6 = .int .i64 n
theorem codesIn_t {H0 : Heap} {N n : Nat} {e : Fe} {Q : Kx} (hl : Iv H0 a l) (hN : H0.next = N) (hr : rightB l = true) (h1 : 1 ≤ n) (h2 : n ≤ 11) (hc : CI N H0 a c l n 0 e H) (e19 : e 19 = .slice a l.length c) (e20 : e 20 = .int .i64 l.length) (e21 : e 21 = .int .i64 0)
    (hQ : ∀ e' H', CI N H0 a c l n l.length e' H' → Q (.exit 2) e' H') : WL S b59_1 e H Q := by
  have hlen := right_len hr
  have hall := right_all hr
  refine l59_1 S (fun d e H => ∃ s : Nat, s ≤ l.length ∧ d = l.length - s ∧ CI N H0 a c l n s e H ∧ e 19 = .slice a l.length c ∧ e 20 = .int .i64 l.length ∧ e 21 = .int .i64 s) l.length ⟨0, by omega, by omega, hc, e19, e20, e21⟩ ?_
  rintro d e H ⟨s, hs, rfl, ⟨hk, ho, e0, e4, e5, e6⟩, e19, e20, e21⟩
  by_cases h3 : s < l.length
  · obtain ⟨b, o, cs, rw, rfl, hg0, hcs⟩ := hl (by omega)
    have hg := (hk.2 b (by rw [← hN]; exact lt_cells hg0)).trans hg0
    obtain ⟨x, hx⟩ : ∃ x, l[s]? = some x := ⟨_, List.getElem?_eq_getElem h3⟩
    have hcx := hcs s x hx
    have hax := at0_of hx
    have hw : IntKind.i64.wrap ((s : Int) + 1) = (s : Int) + 1 := wi (by omega) (by omega)
    have hcb := code_bd hall hlen h1 h2 (show s ≤ l.length by omega)
    have hsu := laidAt_succ (n := n) h3 h1
    have hca : codeAt l n (s + 1) = codeAt l n s + if at0 l s = n then 1 else 0 := by
      cases n with
      | zero => omega
      | succ n => simp [codeAt]
    by_cases g : x = n
    · have hw2 : IntKind.i64.wrap (codeAt l n s + 1) = codeAt l n s + 1 := wi (by omega) (by omega)
      have hlt := lt_cells ho
      have hkst : kSt H (.pointer (some ⟨N, s, none⟩)) (.int .i64 (codeAt l n s)) = some (H.put N (.cells (ints (laidAt l n (s + 1))) 3 true)) := by
        have ho' : H.get N = .cells (ints (laidAt l n s)) 3 true := ho
        rw [hsu, if_pos (by rw [hax, g])]
        simp [kSt, ho', oneC, ints, laidAt_len, h3, List.map_set]
      simp [s59_1, e0, e4, e5, e6, e19, e20, e21, h3, addOff, hg, hcx, g, hw, hw2, hkst]
      refine ⟨l.length - (s + 1), by omega, s + 1, by omega, rfl, ⟨hk.trans (Kp.put (Nat.le_refl _)), get_put_eq hlt, by simp [e0], by simp [e4], ?_, by simp [e6]⟩, by simp⟩
      rw [hca, if_pos (by rw [hax, g])]; simp
    · simp [s59_1, e0, e4, e5, e6, e19, e20, e21, h3, addOff, hg, hcx, g, hw]
      refine ⟨l.length - (s + 1), by omega, s + 1, by omega, rfl, ⟨hk, ?_, by simp [e0], by simp [e4], ?_, by simp [e6]⟩, by simp⟩
      · rw [hsu, if_neg (by rw [hax]; exact g)]; exact ho
      · rw [hca, if_neg (by rw [hax]; exact g)]; simp [e5]
  · have h5 : s = l.length := by omega
    subst h5
    simp [s59_1, e20, e21]
    exact hQ _ _ ⟨hk, ho, by simp [e0], by simp [e4], by simp [e5], by simp [e6]⟩
/-- numbers, as a slice of a block of its own -/
theorem Codes_t {H : Heap} {a : Option Addr} {c : Nat} {l : List Int} (hl : Iv H a l) (hm : (l.length : Int) ≤ 9223372036854775807) :
    Wf S 59 [.slice a l.length c] H fun v H' => Kp H.next H H' ∧ ((wholeB l = false ∧ v = .tuple #[.slice none 0 0, .bool false]) ∨ (wholeB l = true ∧ ∃ b, v = .tuple #[.slice (some ⟨b, 0, none⟩) l.length l.length, .bool true] ∧ H.next ≤ b ∧ Own H' b (codes l))) := by
  refine w59 rfl rfl _ ?_
  simp [s59]
  refine (Whole_t hl hm).mono ?_
  rintro v H1 ⟨rfl, rfl⟩
  by_cases hw : wholeB l = true
  · have hr : rightB l = true := by simp only [wholeB, Bool.and_eq_true] at hw; exact hw.1
    have hlen := right_len hr
    have hall := right_all hr
    have m1 : (l.length : Int) ≤ 9223372036854775807 := by omega
    have m2 : 8 * (l.length : Int) ≤ 281474976710656 := by omega
    simp [hw, kMks, m1, m2]
    refine l59_0 S (fun d e H => ∃ n : Nat, 1 ≤ n ∧ n ≤ 12 ∧ d = 12 - n ∧ Kp H1.next H1 H ∧ Own H H1.next (laidAt l n 0) ∧ e 0 = .slice a l.length c ∧ e 4 = .slice (some ⟨H1.next, 0, none⟩) l.length l.length ∧ e 5 = .int .i64 (codeAt l n 0) ∧ e 6 = .int .i64 n) 11 ⟨1, by omega, by omega, by omega, Kp.push (Nat.le_refl _), ?_, by simp, by simp, by simp [codeAt], by simp⟩ ?_
    · unfold Own
      rw [get_last, laidAt_start]
      simp [ints, zeros]
    rintro d e H ⟨n, hn1, hn2, rfl, hk, ho, e0, e4, e5, e6⟩
    by_cases h11 : n ≤ 11
    · have h11' : (n : Int) ≤ 11 := by omega
      simp [s59_0, e0, e4, e5, e6, h11, h11']
      refine codesIn_t (N := H1.next) (H0 := H1) (n := n) (c := c) hl rfl hr hn1 h11 ⟨hk, ho, by simp [e0], by simp [e4], by simp [e5], by simp [e6]⟩ (by simp) (by simp) (by simp) ?_
      intro e' H' ⟨hk', ho', f0, f4, f5, f6⟩
      have hcb := code_bd hall hlen hn1 h11 (Nat.le_refl l.length)
      have hw1 : IntKind.i64.wrap ((n : Int) + 1) = (n : Int) + 1 := wi (by omega) (by omega)
      have hw2 : IntKind.i64.wrap (codeAt l n l.length * 2 ^ min 1 IntKind.i64.bits) = codeAt l n l.length * 2 := by
        have hb : min 1 IntKind.i64.bits = 1 := by decide
        rw [hb, Int.pow_one]; exact wi (by omega) (by omega)
      simp [f0, f4, f5, f6, kb_shl, hw1, hw2]
      refine ⟨12 - (n + 1), by omega, n + 1, by omega, by omega, rfl, hk', ?_, ?_, by omega⟩
      · rw [laidAt_next]; exact ho'
      · simp [codeAt]; omega
    · have h5 : n = 12 := by omega
      subst h5
      simp [s59_0, e4, e6, tup]
      refine ⟨hk, ?_⟩
      rw [← laidAt_end fun k => (hall k).2]; exact ho
  · have hw' : wholeB l = false := by simpa using hw
    simp [hw', tup]
    exact Kp.refl _ _
end
end Go.Proofs.YtlboioplemlneaaGreat.K
/- Codes of unlike lengths: the document's codes, and whether numbers are the same. -/
set_option maxRecDepth 100000
set_option maxHeartbeats 2000000
set_option linter.unusedVariables false
set_option linter.unusedSimpArgs false
namespace Go.Proofs.YtlboioplemlneaaGreat.K
open Go Go.Proofs
section
variable {H : Heap} {a : Option Addr} {c : Nat} {l : List Int}
theorem before_bd {l : List Int} (hall : ∀ k, 0 ≤ at0 l k ∧ at0 l k ≤ 11) (x : Int) (s k : Nat) : 0 ≤ sumTo (before l x s) k ∧ sumTo (before l x s) k ≤ 1024 * k := by
  induction k with
  | zero => simp [sumTo]
  | succ k ih =>
    have h1 := before_nonneg l x s k
    have h2 : before l x s k ≤ 1024 := by
      unfold before
      split
      · exact part_le (by omega)
      · omega
    simp only [sumTo]; omega
theorem ahead_in {i : Nat} {x : Int} {e : Fe} {Q : Kx} (hl : Iv H a l) (hlen : l.length ≤ 256) (hall : ∀ k, 0 ≤ at0 l k ∧ at0 l k ≤ 11) (hx : l[i]? = some x) (e0 : e 0 = .slice a l.length c) (e4 : e 4 = .int .i64 i) (e5 : e 5 = .int .i64 0) (e6 : e 6 = .int .i64 0)
    (hQ : ∀ e', e' 0 = .slice a l.length c → e' 3 = e 3 → e' 4 = .int .i64 i → e' 5 = .int .i64 (ahead l x i) → Q (.exit 2) e' H) : WL S b66_1 e H Q := by
  refine l66_1 S (fun d e' H' => ∃ k : Nat, k ≤ l.length ∧ d = l.length - k ∧ H' = H ∧ e' 0 = .slice a l.length c ∧ e' 3 = e 3 ∧ e' 4 = .int .i64 i ∧ e' 5 = .int .i64 (sumTo (before l x i) k) ∧ e' 6 = .int .i64 k) l.length ⟨0, by omega, by omega, rfl, e0, rfl, e4, by simpa [sumTo] using e5, e6⟩ ?_
  rintro d e' H' ⟨k, hk, rfl, rfl, f0, f3, f4, f5, f6⟩
  by_cases h3 : k < l.length
  · obtain ⟨b, o, cs, rw, rfl, hg, hc⟩ := hl (by omega)
    obtain ⟨y, hy⟩ : ∃ y, l[k]? = some y := ⟨_, List.getElem?_eq_getElem h3⟩
    have hcy := hc k y hy
    have hcx := hc i x hx
    have hi := (List.getElem?_eq_some_iff.1 hx).1
    have hay := at0_of hy
    have hyb := hall k
    rw [hay] at hyb
    have hw : IntKind.i64.wrap ((k : Int) + 1) = (k : Int) + 1 := wi (by omega) (by omega)
    have hbd := before_bd hall x i k
    have hpl : 0 < y → part y ≤ 1024 := fun h => part_le (by omega)
    have hpp := part_pos y
    have hw2 : IntKind.i64.wrap (11 - y) = ((11 - y).toNat : Int) := by rw [wi (by omega) (by omega)]; omega
    by_cases g : 0 < y ∧ (y < x ∨ y = x ∧ k < i)
    · have hbe : before l x i k = part y := by unfold before; rw [hay, if_pos g]
      have hpl' := hpl g.1
      have hw4 : IntKind.i64.wrap (sumTo (before l x i) k + part y) = sumTo (before l x i) k + part y := wi (by omega) (by omega)
      have hpe : p2 (11 - y).toNat = part y := rfl
      by_cases g2 : y < x
      · simp [s66_1, f0, f4, f5, f6, h3, hi, addOff, hg, hcy, hcx, g.1, g2]
        rw [hw2]
        refine (Size_t H' (11 - y).toNat (by omega)).mono ?_
        rintro v H2 ⟨rfl, rfl⟩
        simp [f0, f3, f4, f5, f6, hpe, hw, hw4]
        exact ⟨l.length - (k + 1), by omega, k + 1, by omega, rfl, by simp [sumTo, hbe], by omega⟩
      · have g3 : y = x := by omega
        have g4 : k < i := by omega
        subst g3
        simp [s66_1, f0, f4, f5, f6, h3, hi, addOff, hg, hcy, hcx, g.1, g4]
        rw [hw2]
        refine (Size_t H' (11 - y).toNat (by omega)).mono ?_
        rintro v H2 ⟨rfl, rfl⟩
        simp [f0, f3, f4, f5, f6, hpe, hw, hw4]
        exact ⟨l.length - (k + 1), by omega, k + 1, by omega, rfl, by simp [sumTo, hbe], by omega⟩
    · have hbe : before l x i k = 0 := by unfold before; rw [hay, if_neg g]
      by_cases g1 : 0 < y
      · have g2 : ¬ y < x := fun e => g ⟨g1, .inl e⟩
        by_cases g3 : y = x
        · have g4 : ¬ k < i := fun e => g ⟨g1, .inr ⟨g3, e⟩⟩
          subst g3
          simp [s66_1, f0, f3, f4, f5, f6, h3, hi, addOff, hg, hcy, hcx, g1, g4, hw]
          exact ⟨l.length - (k + 1), by omega, k + 1, by omega, rfl, by simp [sumTo, hbe], by omega⟩
        · simp [s66_1, f0, f3, f4, f5, f6, h3, hi, addOff, hg, hcy, hcx, g1, g2, g3, hw]
          exact ⟨l.length - (k + 1), by omega, k + 1, by omega, rfl, by simp [sumTo, hbe], by omega⟩
      · simp [s66_1, f0, f3, f4, f5, f6, h3, hi, addOff, hg, hcy, hcx, g1, hw]
        exact ⟨l.length - (k + 1), by omega, k + 1, by omega, rfl, by simp [sumTo, hbe], by omega⟩
  · have h5 : k = l.length := by omega
    subst h5
    simp [s66_1, f0, f6]
    exact hQ _ (by simp [f0]) (by simp [f3]) (by simp [f4]) (by simp [f5, ahead])
def upto (l : List Int) (i : Nat) : List Int := (List.range l.length).map fun k => if k < i then codeOf l k else 0
theorem upto_len (l : List Int) (i : Nat) : (upto l i).length = l.length := by simp [upto]
theorem upto_get {i k : Nat} (hk : k < l.length) : (upto l i)[k]? = some (if k < i then codeOf l k else 0) := by simp [upto, hk]
theorem upto_succ {i : Nat} (hi : i < l.length) : upto l (i + 1) = (upto l i).set i (codeOf l i) := by
  apply List.ext_getElem?
  intro k
  by_cases hk : k < l.length
  · rw [upto_get hk, List.getElem?_set]
    by_cases h : i = k
    · subst h
      rw [if_pos rfl, if_pos (show i < (upto l i).length by rw [upto_len]; exact hi), if_pos (by omega)]
    · rw [if_neg h, upto_get hk]
      congr 1
      exact ite_iff (fun hh => by omega) (fun hh => by omega)
  · rw [List.getElem?_eq_none (by rw [upto_len]; omega), List.getElem?_eq_none (by rw [List.length_set, upto_len]; omega)]
theorem upto_skip {i : Nat} (hi : i < l.length) (h0 : codeOf l i = 0) : upto l (i + 1) = upto l i := by
  apply List.ext_getElem?
  intro k
  by_cases hk : k < l.length
  · rw [upto_get hk, upto_get hk]
    congr 1
    by_cases h : k = i
    · subst h; rw [if_pos (by omega), if_neg (by omega), h0]
    · exact ite_iff (fun hh => by omega) (fun hh => by omega)
  · rw [List.getElem?_eq_none (by rw [upto_len]; omega), List.getElem?_eq_none (by rw [upto_len]; omega)]
theorem upto_end : upto l l.length = codes l := by
  unfold upto codes
  refine List.map_congr_left fun k hk => ?_
  have : k < l.length := by simpa using hk
  rw [if_pos this]
theorem rCodes_t (hl : Iv H a l) (hr : rightB l = true) :
    Wf S 66 [.slice a l.length c] H fun v H' => Kp H.next H H' ∧ v = .slice (some ⟨H.next, 0, none⟩) l.length l.length ∧ Own H' H.next (codes l) := by
  have hlen := right_len hr
  have hall := right_all hr
  refine w66 rfl rfl _ ?_
  have m1 : (l.length : Int) ≤ 9223372036854775807 := by omega
  have m2 : 8 * (l.length : Int) ≤ 281474976710656 := by omega
  simp [s66, kMks, m1, m2]
  refine l66_0 S (fun d e H' => ∃ i : Nat, i ≤ l.length ∧ d = l.length - i ∧ Kp H.next H H' ∧ Own H' H.next (upto l i) ∧ e 0 = .slice a l.length c ∧ e 3 = .slice (some ⟨H.next, 0, none⟩) l.length l.length ∧ e 4 = .int .i64 i) l.length ⟨0, by omega, by omega, Kp.push (Nat.le_refl _), ?_, by simp, by simp, by simp⟩ ?_
  · unfold Own
    rw [get_last]
    simp [ints, zeros, upto, List.map_const']
  rintro d e H' ⟨i, hi, rfl, hk, ho, e0, e3, e4⟩
  by_cases h3 : i < l.length
  · have hl' : Iv H' a l := hl.kp hk
    have hl2 := hl'
    obtain ⟨b, o, cs, rw, rfl, hg, hc⟩ := hl' (by omega)
    obtain ⟨x, hx⟩ : ∃ x, l[i]? = some x := ⟨_, List.getElem?_eq_getElem h3⟩
    have hcx := hc i x hx
    have hax := at0_of hx
    have hxb := hall i
    rw [hax] at hxb
    have hw : IntKind.i64.wrap ((i : Int) + 1) = (i : Int) + 1 := wi (by omega) (by omega)
    by_cases g0 : x = 0
    · subst g0
      simp [s66_0, e0, e3, e4, h3, addOff, hg, hcx, hw]
      refine ⟨l.length - (i + 1), by omega, i + 1, by omega, rfl, hk, ?_, by omega⟩
      rw [upto_skip h3 (by unfold codeOf; rw [hax]; simp)]; exact ho
    · have hnn : 0 < at0 l i := by rw [hax]; omega
      obtain ⟨hd1, hd2⟩ := codeOf_div h3 hnn (by rw [hax]; exact hxb.2)
      rw [hax] at hd1 hd2
      simp [s66_0, e0, e3, e4, h3, addOff, hg, hcx, g0]
      refine ahead_in (i := i) (x := x) (c := c) hl2 hlen hall hx (by simp [e0]) (by simp [e4]) (by simp) (by simp) ?_
      intro e' f0 f3 f4 f5
      have hw2 : IntKind.i64.wrap (11 - x) = ((11 - x).toNat : Int) := by rw [wi (by omega) (by omega)]; omega
      simp [f0, f4, h3, addOff, hg, hcx]
      rw [hw2]
      refine (Size_t H' (11 - x).toNat (by omega)).mono ?_
      rintro v H2 ⟨rfl, rfl⟩
      have hpe : p2 (11 - x).toNat = part x := rfl
      have hp := part_pos x
      have hp0 : ¬ part x = 0 := by omega
      have han := ahead_nonneg l x i
      have hbd := before_bd hall x i l.length
      have hae : ahead l x i = sumTo (before l x i) l.length := rfl
      have htd : (ahead l x i).tdiv (part x) = codeOf l i := by rw [Int.tdiv_eq_ediv_of_nonneg han, hd1]
      have hcn : 0 ≤ codeOf l i ∧ codeOf l i ≤ ahead l x i := by
        rw [hd1]
        exact ⟨Int.ediv_nonneg han (by omega), Int.ediv_le_self _ han⟩
      have hw3 : IntKind.i64.wrap (codeOf l i) = codeOf l i := wi (by omega) (by omega)
      have hlt := lt_cells ho
      have hkst : kSt H2 (.pointer (some ⟨H.next, i, none⟩)) (.int .i64 (codeOf l i)) = some (H2.put H.next (.cells (ints (upto l (i + 1))) 3 true)) := by
        have ho' : H2.get H.next = .cells (ints (upto l i)) 3 true := ho
        rw [upto_succ h3]
        simp [kSt, ho', oneC, ints, upto_len, h3, List.map_set]
      simp [f0, f3, f4, f5, e3, hpe, hp0, htd, hw3, h3, addOff, hkst, hw]
      exact ⟨l.length - (i + 1), by omega, i + 1, by omega, rfl, hk.trans (Kp.put (Nat.le_refl _)), get_put_eq hlt, by omega⟩
  · have h5 : i = l.length := by omega
    subst h5
    simp [s66_0, e0, e3, e4]
    exact ⟨hk, by rw [← upto_end]; exact ho⟩
end
end Go.Proofs.YtlboioplemlneaaGreat.K
/- Codes of unlike lengths: no code begins another one, plainly. -/
set_option maxRecDepth 100000
set_option maxHeartbeats 2000000
set_option linter.unusedVariables false
set_option linter.unusedSimpArgs false
namespace Go.Proofs.YtlboioplemlneaaGreat.K
open Go
/-- a code, and the one that it would begin with -/
theorem pre_ne {l : List Int} (hall : ∀ k, 0 ≤ at0 l k ∧ at0 l k ≤ 11) {i k : Nat} (hi : i < l.length) (hk : k < l.length) (h1 : 0 < at0 l i) (h2 : 0 < at0 l k) (h3 : at0 l i ≤ at0 l k) (hne : i ≠ k) :
    (codeOf l k).fdiv (p2 (at0 l k - at0 l i).toNat) ≠ codeOf l i := by
  have hp2 := p2_pos (at0 l k - at0 l i).toNat
  rw [Int.fdiv_eq_ediv_of_nonneg _ (by omega)]
  obtain ⟨_, ei⟩ := codeOf_div hi h1 (hall i).2
  obtain ⟨_, ek⟩ := codeOf_div hk h2 (hall k).2
  have hpk := part_pos (at0 l k)
  have hpi := part_pos (at0 l i)
  -- the part of the shorter one is so many parts of the longer one
  have hpart : part (at0 l i) = p2 (at0 l k - at0 l i).toNat * part (at0 l k) := by
    unfold part
    rw [← p2_add]
    congr 1
    have := hall k
    omega
  have hck : 0 ≤ codeOf l k := by
    rcases Int.lt_or_le (codeOf l k) 0 with h | h
    · have := Int.mul_neg_of_neg_of_pos h hpk
      have := ahead_nonneg l (at0 l k) k
      omega
    · exact h
  intro he
  -- between the two
  have hlo : codeOf l i * p2 (at0 l k - at0 l i).toNat ≤ codeOf l k := by rw [← he]; exact Int.ediv_mul_le _ (by omega)
  have hhi : codeOf l k < (codeOf l i + 1) * p2 (at0 l k - at0 l i).toNat := by rw [← he]; exact Int.lt_ediv_add_one_mul_self _ hp2
  have hlo' : ahead l (at0 l i) i ≤ ahead l (at0 l k) k := by
    rw [← ei, ← ek, hpart, ← Int.mul_assoc]
    exact Int.mul_le_mul_of_nonneg_right hlo (by omega)
  have hhi' : ahead l (at0 l k) k < ahead l (at0 l i) i + part (at0 l i) := by
    have := Int.mul_lt_mul_of_pos_right hhi hpk
    rw [ek, Int.mul_assoc, ← hpart, Int.add_mul, ei, Int.one_mul] at this
    exact this
  rcases Int.lt_or_le (at0 l i) (at0 l k) with h | h
  · have := ahead_lt hi h1 (.inl h)
    omega
  · have heq : at0 l i = at0 l k := by omega
    rcases Nat.lt_or_ge i k with hik | hik
    · have := ahead_lt hi h1 (.inr ⟨heq, hik⟩)
      omega
    · have := ahead_lt hk h2 (.inr ⟨heq.symm, by omega⟩)
      omega
theorem code_lt {l : List Int} (hall : ∀ k, 0 ≤ at0 l k ∧ at0 l k ≤ 11) {i : Nat} (hi : i < l.length) (h1 : 0 < at0 l i) (ht : total l ≤ 2048) : 0 ≤ codeOf l i ∧ codeOf l i < p2 (at0 l i).toNat := by
  obtain ⟨_, ei⟩ := codeOf_div hi h1 (hall i).2
  have hpi := part_pos (at0 l i)
  have he := ahead_end hi h1
  have hn := ahead_nonneg l (at0 l i) i
  constructor
  · rcases Int.lt_or_le (codeOf l i) 0 with h | h
    · have := Int.mul_neg_of_neg_of_pos h hpi
      omega
    · exact h
  · rcases Int.lt_or_le (codeOf l i) (p2 (at0 l i).toNat) with h | h
    · exact h
    · have h2 : p2 (at0 l i).toNat * part (at0 l i) ≤ codeOf l i * part (at0 l i) := Int.mul_le_mul_of_nonneg_right h (by omega)
      have h3 : p2 (at0 l i).toNat * part (at0 l i) = 2048 := by
        unfold part
        rw [← p2_add]
        have := hall i
        have : (at0 l i).toNat + (11 - at0 l i).toNat = 11 := by omega
        rw [this]; decide
      omega
end Go.Proofs.YtlboioplemlneaaGreat.K
/- Reading numbers and texts from bytes: what the program's reader does. -/
set_option maxRecDepth 100000
set_option maxHeartbeats 2000000
set_option linter.unusedVariables false
set_option linter.unusedSimpArgs false
namespace Go.Proofs.YtlboioplemlneaaGreat.K
open Go Go.Proofs
/-- a reader: what is left, and whether it is bad -/
def RdB (l : Bytes) (bad : Bool) : Blk := .cells [.string (ofL l), .bool bad] 48 true
def Rd (H : Heap) (b : Nat) (l : Bytes) (bad : Bool) : Prop := H.get b = RdB l bad
theorem Rd.lt {H : Heap} {b : Nat} {l : Bytes} {bad : Bool} (h : Rd H b l bad) : b < H.next := lt_cells h
theorem rd_put {H : Heap} {b : Nat} {l : Bytes} {bad : Bool} (h : b < H.next) : Rd (H.put b (RdB l bad)) b l bad := get_put_eq h
section
variable {H : Heap} {b : Nat} {l : Bytes} {bad : Bool}
theorem curNew_t (l : Bytes) : Wf S 8 [.string (ofL l)] H fun v H' => v = .pointer (some ⟨H.next, 0, none⟩) ∧ H' = H.push (RdB l false) := by
  refine w8 rfl rfl _ ?_
  simp [s8, kFill, evPs, isTup, cellsL, wr, RdB]
theorem Bad_t (h : Rd H b l bad) : Wf S 23 [.pointer (some ⟨b, 0, none⟩)] H fun v H' => H' = H ∧ v = .bool bad := by
  refine w23 rfl rfl _ ?_
  have h' : H.get b = .cells [.string (ofL l), .bool bad] 48 true := h
  simp [s23, kEq, addOff, h']
theorem fail_t (h : Rd H b l bad) : Wf S 42 [.pointer (some ⟨b, 0, none⟩)] H fun v H' => H' = H.put b (RdB [] true) := by
  refine w42 rfl rfl _ ?_
  have h' : H.get b = .cells [.string (ofL l), .bool bad] 48 true := h
  have hlt := h.lt
  simp [s42, kEq, addOff, kSt, h', oneC, get_put_eq hlt, put_put, RdB, bs_ofL]
/-- what a reader gives of n bytes, and what it is then -/
def rawOut (l : Bytes) (bad : Bool) (n : Nat) : Bytes := if bad = true ∨ l.length < n then [] else l.take n
def rawL (l : Bytes) (bad : Bool) (n : Nat) : Bytes := if bad = true ∨ l.length < n then [] else l.drop n
def rawB (l : Bytes) (bad : Bool) (n : Nat) : Bool := bad || decide (l.length < n)
theorem Raw_t (h : Rd H b l bad) (n : Int) : Wf S 24 [.pointer (some ⟨b, 0, none⟩), .int .i64 n] H fun v H' => v = .string (ofL (rawOut l bad n.toNat)) ∧ H' = H.put b (RdB (rawL l bad n.toNat) (rawB l bad n.toNat)) := by
  refine w24 rfl rfl _ _ ?_
  have h' : H.get b = .cells [.string (ofL l), .bool bad] 48 true := h
  have hlt := h.lt
  have hmx : max n 0 = (n.toNat : Int) := by omega
  generalize n.toNat = k at hmx
  simp [s24, hmx]
  refine (Bad_t h).mono ?_
  rintro v H1 ⟨rfl, rfl⟩
  cases bad with
  | true =>
    simp
    refine (fail_t h).mono ?_
    rintro v H2 rfl
    simp [rawOut, rawL, rawB, bs_ofL]
  | false =>
    by_cases g : l.length < k
    · have g' : (l.length : Int) < k := by omega
      simp [addOff, h', ofL_size, g, g']
      refine (fail_t h).mono ?_
      rintro v H2 rfl
      simp [rawOut, rawL, rawB, bs_ofL, g]
    · have g' : ¬ (l.length : Int) < k := by omega
      have g2 : k ≤ l.length := by omega
      have g3 : (k : Int) ≤ l.length := by omega
      simp [addOff, h', ofL_size, g, g', s_upto, s_from, g2, g3, kSt, oneC]
      simp [rawOut, rawL, rawB, g, RdB]
theorem Rest_t (h : Rd H b l bad) : Wf S 12 [.pointer (some ⟨b, 0, none⟩)] H fun v H' => v = .string (ofL (if bad then [] else l)) ∧ H' = if bad then H else H.put b (RdB [] false) := by
  refine w12 rfl rfl _ ?_
  have h' : H.get b = .cells [.string (ofL l), .bool bad] 48 true := h
  simp [s12]
  refine (Bad_t h).mono ?_
  rintro v H1 ⟨rfl, rfl⟩
  cases bad with
  | true => simp [bs_ofL]
  | false =>
    simp [addOff, h', ofL_size]
    refine (Raw_t h _).mono ?_
    rintro v H2 ⟨rfl, rfl⟩
    simp [rawOut, rawL, rawB]
theorem size_t (H : Heap) (n : Int) : Wf S 40 [.int .i64 n] H fun v H' => H' = H ∧ v = .int .i64 (min (max n 0) 8) := by
  refine w40 rfl rfl _ ?_
  simp [s40]
theorem kb_or {k : IntKind} {a b : Int} : kBin .or (.int k a) (.int k b) = some (.int k (k.wrap (BitVec.ofInt k.bits a ||| BitVec.ofInt k.bits b).toNat)) := by simp [kBin, kInt]
theorem kb_and {k : IntKind} {a b : Int} : kBin .and (.int k a) (.int k b) = some (.int k (k.wrap (BitVec.ofInt k.bits a &&& BitVec.ofInt k.bits b).toNat)) := by simp [kBin, kInt]
theorem wu64 {x : Int} (h0 : 0 ≤ x) (h1 : x < 18446744073709551616) : IntKind.u64.wrap x = x := by
  simp [IntKind.wrap, IntKind.signed, IntKind.bits]; omega
/-- one byte, as a number; 0 if there is none -/
theorem Fixed1_t (h : Rd H b l bad) : Wf S 21 [.pointer (some ⟨b, 0, none⟩), .int .i64 1] H fun v H' => v = .int .u64 ((rawOut l bad 1).headD 0).toNat ∧ Rd H' b (rawL l bad 1) (rawB l bad 1) ∧ H.next ≤ H'.next ∧ ∀ k, k < H.next → k ≠ b → H'.get k = H.get k := by
  refine w21 rfl rfl _ _ ?_
  simp [s21]
  refine (size_t H 1).mono ?_
  rintro v H1 ⟨rfl, rfl⟩
  try simp
  refine (Raw_t h _).mono ?_
  rintro v H2 ⟨rfl, rfl⟩
  have e1 : (min (max 1 0) 8 : Int).toNat = 1 := by decide
  rw [e1]
  have hlt := h.lt
  have hrd := rd_put (l := rawL l bad 1) (bad := rawB l bad 1) hlt
  have hlen : (rawOut l bad 1).length ≤ 1 := by unfold rawOut; split <;> simp; omega
  rw [s_s2b (by unfold roomMax; omega)]
  have hold : ∀ k, k < H1.next → k ≠ b → (H1.put b (RdB (rawL l bad 1) (rawB l bad 1))).get k = H1.get k := fun k _ hk => get_put_ne hk
  have hnx : (H1.put b (RdB (rawL l bad 1) (rawB l bad 1))).next = H1.next := next_put
  generalize H1.put b (RdB (rawL l bad 1) (rawB l bad 1)) = H3 at *
  simp
  cases ho : rawOut l bad 1 with
  | nil =>
    refine u21_0 S ?_
    simp [s21_0]
    refine ⟨?_, by omega, fun k hk hkb => by rw [if_pos (by omega)]; exact hold k hk hkb⟩
    unfold Rd; rw [get_old (by omega)]; exact hrd
  | cons c cs =>
    have hcs : cs = [] := by rw [ho] at hlen; cases cs with | nil => rfl | cons _ _ => simp at hlen
    subst hcs
    have hz : IntKind.i64.wrap 0 = 0 := by decide
    have hmin : min 0 IntKind.u64.bits = 0 := by decide
    have hc : c.toNat < 256 := c.toNat_lt
    have hwu : IntKind.u64.wrap (c.toNat : Int) = c.toNat := wu64 (by omega) (by omega)
    have hor : IntKind.u64.wrap ((c.toNat : Int) % 2 ^ IntKind.u64.bits) = c.toNat := by
      have : ((c.toNat : Int) % 2 ^ IntKind.u64.bits) = c.toNat := by
        have : IntKind.u64.bits = 64 := rfl
        rw [this]; omega
      rw [this]; exact hwu
    have hw1 : IntKind.i64.wrap 1 = 1 := by decide
    refine u21_0 S ?_
    simp [s21_0, addOff, bvs, bv, kb_shl, kb_or, hz, hmin, hwu, hor, hw1]
    refine u21_0 S ?_
    simp [s21_0]
    refine ⟨?_, by omega, fun k hk hkb => by rw [if_pos (by omega)]; exact hold k hk hkb⟩
    unfold Rd; rw [get_old (by omega)]; exact hrd
end
end Go.Proofs.YtlboioplemlneaaGreat.K
/- Numbers that may be read, and cut. -/
set_option maxRecDepth 100000
set_option maxHeartbeats 2000000
set_option linter.unusedVariables false
set_option linter.unusedSimpArgs false
namespace Go.Proofs.YtlboioplemlneaaGreat.K
open Go Go.Proofs
/-- numbers that may be read, and cut -/
def Is (H : Heap) (v : Value) (l : List Int) : Prop := (v = .slice none 0 0 ∧ l = []) ∨ ∃ b o c cs rw, v = .slice (some ⟨b, o, none⟩) l.length c ∧ (c = capx ∨ l.length ≤ c) ∧ H.get b = .cells cs 3 rw ∧ ∀ (i : Nat) x, l[i]? = some x → cs[o + i]? = some (.int .i64 x)
theorem Is.kp {H H' : Heap} {v : Value} {l : List Int} (h : Is H v l) (hk : Kp H.next H H') : Is H' v l := by
  rcases h with h | ⟨b, o, c, cs, rw, h1, h2, h3, h4⟩
  · exact .inl h
  · exact .inr ⟨b, o, c, cs, rw, h1, h2, (hk.2 b (lt_cells h3)).trans h3, h4⟩
theorem Is.iv {H : Heap} {v : Value} {l : List Int} (h : Is H v l) : ∃ a c, v = .slice a l.length c ∧ Iv H a l := by
  rcases h with ⟨rfl, rfl⟩ | ⟨b, o, c, cs, rw, h1, h2, h3, h4⟩
  · exact ⟨none, 0, rfl, fun h => by simp at h⟩
  · exact ⟨_, _, h1, fun _ => ⟨b, o, cs, rw, rfl, h3, h4⟩⟩
theorem run_slc0 {S : Sys} {H : Heap} {K : Kv} {b o n c : Nat} {cs : List Value} {t : TypeId} {rw : Bool} {m : Nat} (hc : c = capx ∨ n ≤ c) (hg : H.get b = .cells cs t rw) (hm : m ≤ n) :
    run S (.slc t 1 (.c (.slice (some ⟨b, o, none⟩) n c)) none (some (.c (.int .i64 m)))) [] H K = K (.slice (some ⟨b, o, none⟩) m (if c = capx then capx else c)) H := by
  show oT ((kSlc H t 1 (.slice (some ⟨b, o, none⟩) n c) 0 (some (m : Int))).map (·, H)) K = _
  simp only [kSlc, hg, if_true, Option.getD_some, addOff]
  by_cases h : c = capx
  · subst h
    simp [hm]
  · have h2 : n ≤ c := hc.resolve_left h
    have h3 : (0 : Int) ≤ m ∧ (m : Int) ≤ c := by omega
    simp [h]
    split
    · rename_i h0
      simp
    · rename_i h0; omega
theorem run_slcF {S : Sys} {H : Heap} {K : Kv} {b o n c : Nat} {cs : List Value} {t : TypeId} {rw : Bool} {m : Nat} (hc : c = capx ∨ n ≤ c) (hg : H.get b = .cells cs t rw) (hm : m ≤ n) :
    run S (.slc t 1 (.c (.slice (some ⟨b, o, none⟩) n c)) (some (.c (.int .i64 m))) none) [] H K = K (.slice (some ⟨b, if c ≠ capx ∧ m = c then o else o + m, none⟩) (n - m) (if c = capx then capx else c - m)) H := by
  show oT ((kSlc H t 1 (.slice (some ⟨b, o, none⟩) n c) (m : Int) none).map (·, H)) K = _
  simp only [kSlc, hg, if_true, Option.getD_none, addOff]
  by_cases h : c = capx
  · subst h
    have h1 : (0 : Int) ≤ m ∧ (m : Int) ≤ n ∧ (n : Int) ≤ n := by omega
    rw [if_pos rfl, if_pos h1]
    have h2 : ((n : Int) - m).toNat = n - m := by omega
    simp [h2]
  · have h2 : n ≤ c := hc.resolve_left h
    have h3 : (0 : Int) ≤ m ∧ (m : Int) ≤ n ∧ (n : Int) ≤ c := by omega
    rw [if_neg h, if_pos h3]
    have h2 : ((n : Int) - m).toNat = n - m := by omega
    by_cases h4 : m = c
    · simp [h, h2, h4]
    · simp [h, h2, h4]
theorem Is.cut {S : Sys} {H : Heap} {v : Value} {l : List Int} (h : Is H v l) {m : Nat} (hm : m ≤ l.length) : ∃ v', Is H v' (l.drop m) ∧ ∀ K : Kv, run S (.slc 3 1 (.c v) (some (.c (.int .i64 m))) none) [] H K = K v' H := by
  rcases h with ⟨rfl, rfl⟩ | ⟨b, o, c, cs, rw, rfl, h2, h3, h4⟩
  · have : m = 0 := by simpa using hm
    subst this
    exact ⟨.slice none 0 0, .inl ⟨rfl, rfl⟩, fun K => rfl⟩
  · refine ⟨_, ?_, fun K => run_slcF h2 h3 hm⟩
    refine .inr ⟨b, _, _, cs, rw, by rw [List.length_drop], ?_, h3, fun i x hx => ?_⟩
    · rw [List.length_drop]
      by_cases hc : c = capx
      · exact .inl (if_pos hc)
      · rw [if_neg hc]; right
        have := h2.resolve_left hc
        omega
    · rw [List.getElem?_drop] at hx
      have hlt : m + i < l.length := by
        rcases Nat.lt_or_ge (m + i) l.length with h | h
        · exact h
        · rw [List.getElem?_eq_none h] at hx; cases hx
      have := h4 _ x hx
      have e : ¬ (c ≠ capx ∧ m = c) := by
        rintro ⟨q1, q2⟩
        have := h2.resolve_left q1
        omega
      rw [if_neg e]
      rw [← this]; congr 1; omega
/-- the same, told of all heaps in which the numbers stand -/
theorem Is.cut2 {S : Sys} {H : Heap} {v : Value} {l : List Int} (h : Is H v l) {m : Nat} (hm : m ≤ l.length) : ∃ v', ∀ H', Is H' v l → Is H' v' (l.drop m) ∧ ∀ K : Kv, run S (.slc 3 1 (.c v) (some (.c (.int .i64 m))) none) [] H' K = K v' H' := by
  obtain ⟨v', h1, h2⟩ := h.cut (S := S) hm
  refine ⟨v', fun H' h' => ?_⟩
  obtain ⟨v2, q1, q2⟩ := h'.cut (S := S) hm
  have : v2 = v' := by
    rcases h with ⟨rfl, rfl⟩ | ⟨b, o, c, cs, rw, rfl, r2, r3, r4⟩
    · have : m = 0 := by simpa using hm
      subst this
      have e1 := h2 fun v _ => v = v'
      have e2 := q2 fun v _ => v = v'
      have a1 : (run S (.slc 3 1 (.c (.slice none 0 0)) (some (.c (.int .i64 (0 : Nat)))) none) [] H fun v _ => v = v') = ((Value.slice none 0 0) = v') := rfl
      have a2 : (run S (.slc 3 1 (.c (.slice none 0 0)) (some (.c (.int .i64 (0 : Nat)))) none) [] H' fun v _ => v = v') = ((Value.slice none 0 0) = v') := rfl
      rw [a1] at e1
      rw [a2] at e2
      rw [← e2, e1]
    · rcases h' with ⟨e, _⟩ | ⟨b', o', c', cs', rw', e, s2, s3, s4⟩
      · cases e
      · simp only [Value.slice.injEq] at e
        obtain ⟨e1, _, e2⟩ := e
        cases e1
        subst e2
        have e1 := h2 fun v _ => v = v'
        have e2 := q2 fun v _ => v = v'
        rw [run_slcF r2 r3 hm] at e1
        rw [run_slcF s2 s3 hm] at e2
        rw [← e2, e1]
  rw [← this]
  exact ⟨q1, q2⟩
end Go.Proofs.YtlboioplemlneaaGreat.K
