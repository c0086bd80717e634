/- Codes of unlike lengths, in plain numbers: what is ahead of a symbol, and its code. -/
import Derived.Test.YtlboioplemlneaaKF1
import Derived.Test.YtlboioplemlneaaKLowSh2
import Derived.Test.YtlboioplemlneaaKLowPrim
import Derived.Test.YtlboioplemlneaaKF3
import Derived.Test.YtlboioplemlneaaKLowSh3
set_option linter.unusedVariables false
set_option linter.unusedSimpArgs false
namespace Go.Proofs.Ytlboioplemlneaa.K
def sumTo (f : Nat → Int) : Nat → Int
  | 0 => 0
  | n + 1 => sumTo f n + f n
theorem sumTo_congr {f g : Nat → Int} : ∀ n, (∀ k, k < n → f k = g k) → sumTo f n = sumTo g n
  | 0, _ => rfl
  | n + 1, h => by simp only [sumTo]; rw [sumTo_congr n fun k hk => h k (by omega), h n (by omega)]
theorem sumTo_le {f g : Nat → Int} : ∀ n, (∀ k, k < n → f k ≤ g k) → sumTo f n ≤ sumTo g n
  | 0, _ => by simp [sumTo]
  | n + 1, h => by
    simp only [sumTo]
    have := sumTo_le n fun k hk => h k (by omega)
    have := h n (by omega)
    omega
theorem sumTo_nonneg {f : Nat → Int} (n : Nat) (h : ∀ k, k < n → 0 ≤ f k) : 0 ≤ sumTo f n := by
  have := sumTo_le (f := fun _ => 0) (g := f) n h
  have hz : ∀ n, sumTo (fun _ => 0) n = 0 := by
    intro n
    induction n with
    | zero => rfl
    | succ n ih => simp [sumTo, ih]
  rw [hz] at this; exact this
theorem sumTo_add (f g : Nat → Int) : ∀ n, sumTo (fun k => f k + g k) n = sumTo f n + sumTo g n
  | 0 => by simp [sumTo]
  | n + 1 => by simp only [sumTo, sumTo_add f g n]; omega
theorem sumTo_mono {f : Nat → Int} {n m : Nat} (h : n ≤ m) (hf : ∀ k, k < m → 0 ≤ f k) : sumTo f n ≤ sumTo f m := by
  induction m with
  | zero => have : n = 0 := by omega
            subst this; exact Int.le_refl _
  | succ m ih =>
    by_cases hm : n = m + 1
    · subst hm; exact Int.le_refl _
    · have := ih (by omega) fun k hk => hf k (by omega)
      have := hf m (by omega)
      simp only [sumTo]; omega
/-- one place more in a sum -/
theorem sumTo_one {f g : Nat → Int} {i : Nat} {c : Int} : ∀ n, i < n → (∀ k, k < n → k ≠ i → f k ≤ g k) → f i + c ≤ g i → sumTo f n + c ≤ sumTo g n
  | 0, h, _, _ => by omega
  | n + 1, h, hf, hi => by
    simp only [sumTo]
    by_cases hn : i = n
    · subst hn
      have := sumTo_le (f := f) (g := g) i fun k hk => hf k (by omega) (by omega)
      omega
    · have := sumTo_one (f := f) (g := g) n (by omega) (fun k hk hne => hf k (by omega) hne) hi
      have := hf n (by omega) (by omega)
      omega
def p2 (n : Nat) : Int := 2 ^ n
theorem p2_pos (n : Nat) : 0 < p2 n := by unfold p2; exact Int.pow_pos (by omega)
theorem p2_succ (n : Nat) : p2 (n + 1) = 2 * p2 n := by unfold p2; rw [Int.pow_succ]; omega
theorem p2_add (a b : Nat) : p2 (a + b) = p2 a * p2 b := by unfold p2; exact Int.pow_add _ _ _
def at0 (l : List Int) (k : Nat) : Int := l.getD k 0
/-- of 2048 parts, those that a code of this length takes -/
def part (x : Int) : Int := p2 (11 - x).toNat
theorem part_pos (x : Int) : 0 < part x := p2_pos _
/-- the parts of all that is shorter, and of the first s that are as long -/
def before (l : List Int) (n : Int) (s : Nat) (k : Nat) : Int := if 0 < at0 l k ∧ (at0 l k < n ∨ at0 l k = n ∧ k < s) then part (at0 l k) else 0
theorem before_nonneg (l : List Int) (n : Int) (s k : Nat) : 0 ≤ before l n s k := by
  unfold before; split
  · exact Int.le_of_lt (part_pos _)
  · exact Int.le_refl _
def ahead (l : List Int) (n : Int) (s : Nat) : Int := sumTo (before l n s) l.length
def taken (l : List Int) (k : Nat) : Int := if 0 < at0 l k then part (at0 l k) else 0
def total (l : List Int) : Int := sumTo (taken l) l.length
theorem ahead_nonneg (l : List Int) (n : Int) (s : Nat) : 0 ≤ ahead l n s := sumTo_nonneg _ fun k _ => before_nonneg l n s k
theorem ahead_succ {l : List Int} {n : Int} {s : Nat} (h0 : 0 < n) (hs : s < l.length) : ahead l n (s + 1) = ahead l n s + if at0 l s = n then part n else 0 := by
  unfold ahead
  have key : ∀ m, sumTo (before l n (s + 1)) m = sumTo (before l n s) m + if s < m ∧ at0 l s = n then part n else 0 := by
    intro m
    induction m with
    | zero => simp [sumTo]
    | succ m ih =>
      simp only [sumTo, ih]
      have hb : before l n (s + 1) m = before l n s m + if m = s ∧ at0 l s = n then part n else 0 := by
        unfold before
        by_cases hm : m = s
        · subst hm
          by_cases hn : at0 l m = n
          · rw [hn]
            rw [if_pos (by omega), if_neg (by omega)]; simp
          · simp only [hn, and_false, if_false, Int.add_zero]
            congr 1
            simp [hn]
        · simp only [hm, false_and, if_false, Int.add_zero]
          congr 1
          have : (m < s + 1) = (m < s) := by apply propext; omega
          rw [this]
      rw [hb]
      by_cases hn : at0 l s = n
      · by_cases h1 : s < m
        · rw [if_pos ⟨h1, hn⟩, if_neg (by omega), if_pos ⟨by omega, hn⟩]; omega
        · by_cases h2 : m = s
          · rw [if_neg (by omega), if_pos ⟨h2, hn⟩, if_pos ⟨by omega, hn⟩]; omega
          · rw [if_neg (by omega), if_neg (by omega), if_neg (by omega)]; omega
      · simp [hn]
  rw [key]
  simp [hs]
theorem ahead_next {l : List Int} {n : Int} : ahead l (n + 1) 0 = ahead l n l.length := by
  unfold ahead
  refine sumTo_congr _ fun k hk => ?_
  unfold before
  congr 1
  apply propext
  constructor
  · rintro ⟨h1, h2⟩; exact ⟨h1, by omega⟩
  · rintro ⟨h1, h2⟩; exact ⟨h1, by omega⟩
theorem ahead_start (l : List Int) : ahead l 1 0 = 0 := by
  unfold ahead
  have : sumTo (before l 1 0) l.length = sumTo (fun _ => 0) l.length := sumTo_congr _ fun k _ => by
    unfold before; rw [if_neg (by omega)]
  rw [this]
  have hz : ∀ n, sumTo (fun _ => 0) n = 0 := by
    intro n
    induction n with
    | zero => rfl
    | succ n ih => simp [sumTo, ih]
  exact hz _
theorem ahead_total (l : List Int) (n : Int) (s : Nat) : ahead l n s ≤ total l := by
  refine sumTo_le _ fun k _ => ?_
  unfold before taken
  split
  · rename_i h; rw [if_pos h.1]; exact Int.le_refl _
  · split
    · exact Int.le_of_lt (part_pos _)
    · exact Int.le_refl _
/-- one that is ahead of another one takes its own part ahead of that -/
theorem ahead_lt {l : List Int} {i k : Nat} (hi : i < l.length) (hp : 0 < at0 l i) (h : at0 l i < at0 l k ∨ at0 l i = at0 l k ∧ i < k) : ahead l (at0 l i) i + part (at0 l i) ≤ ahead l (at0 l k) k := by
  refine sumTo_one _ hi (fun j _ hj => ?_) ?_
  · unfold before
    by_cases h1 : 0 < at0 l j ∧ (at0 l j < at0 l i ∨ at0 l j = at0 l i ∧ j < i)
    · rw [if_pos h1, if_pos ⟨h1.1, by omega⟩]; exact Int.le_refl _
    · rw [if_neg h1]
      split
      · exact Int.le_of_lt (part_pos _)
      · exact Int.le_refl _
  · unfold before
    rw [if_neg (by omega), if_pos ⟨hp, h⟩]; omega
theorem ahead_end {l : List Int} {i : Nat} (hi : i < l.length) (hp : 0 < at0 l i) : ahead l (at0 l i) i + part (at0 l i) ≤ total l := by
  refine sumTo_one _ hi (fun j _ hj => ?_) ?_
  · unfold before taken
    by_cases h1 : 0 < at0 l j ∧ (at0 l j < at0 l i ∨ at0 l j = at0 l i ∧ j < i)
    · rw [if_pos h1, if_pos h1.1]; exact Int.le_refl _
    · rw [if_neg h1]
      split
      · exact Int.le_of_lt (part_pos _)
      · exact Int.le_refl _
  · unfold before taken
    rw [if_neg (by omega), if_pos hp]; omega
/-- the code that is next, as the program reckons it -/
def codeAt (l : List Int) : Nat → Nat → Int
  | 0, _ => 0
  | n + 1, 0 => 2 * codeAt l n l.length
  | n + 1, s + 1 => codeAt l (n + 1) s + if at0 l s = n + 1 then 1 else 0
theorem codeAt_ahead {l : List Int} : ∀ (n : Nat), 1 ≤ n → n ≤ 11 → ∀ s, s ≤ l.length → codeAt l n s * part n = ahead l n s := by
  intro n
  induction n with
  | zero => intro h; omega
  | succ n ih =>
    intro _ hn s
    induction s with
    | zero =>
      intro _
      by_cases h0 : n = 0
      · subst h0
        have := ahead_start l
        simp only [codeAt]
        simpa using this.symm
      · have := ih (by omega) (by omega) l.length (Nat.le_refl _)
        simp only [codeAt]
        have e1 : ((n + 1 : Nat) : Int) = (n : Int) + 1 := by omega
        rw [e1, ahead_next, ← this]
        have e2 : part (n : Int) = 2 * part ((n : Int) + 1) := by
          unfold part
          rw [show (11 - (n : Int)).toNat = (11 - ((n : Int) + 1)).toNat + 1 by omega, p2_succ]
        rw [e2, Int.mul_comm 2 (codeAt l n l.length), Int.mul_assoc]
    | succ s ihs =>
      intro hs
      have h1 := ihs (by omega)
      have h2 := ahead_succ (l := l) (n := ((n + 1 : Nat) : Int)) (s := s) (by omega) (by omega)
      rw [h2, ← h1]
      simp only [codeAt]
      rw [Int.add_mul]
      congr 1
      have e1 : ((n + 1 : Nat) : Int) = (n : Int) + 1 := by omega
      rw [e1]
      split <;> simp
/-- the code of a symbol -/
def codeOf (l : List Int) (i : Nat) : Int := if 0 < at0 l i then codeAt l (at0 l i).toNat i else 0
theorem codeOf_div {l : List Int} {i : Nat} (hi : i < l.length) (h0 : 0 < at0 l i) (h1 : at0 l i ≤ 11) : codeOf l i = ahead l (at0 l i) i / part (at0 l i) ∧ codeOf l i * part (at0 l i) = ahead l (at0 l i) i := by
  have h := codeAt_ahead (l := l) (at0 l i).toNat (by omega) (by omega) i (by omega)
  have e : (((at0 l i).toNat : Nat) : Int) = at0 l i := by omega
  rw [e] at h
  unfold codeOf
  rw [if_pos h0]
  refine ⟨?_, h⟩
  rw [← h, Int.mul_ediv_cancel _ (by have := part_pos (at0 l i); omega)]
theorem p2_mono {a b : Nat} (h : a ≤ b) : p2 a ≤ p2 b := by
  obtain ⟨c, rfl⟩ := Nat.exists_eq_add_of_le h
  rw [p2_add]
  have h1 := p2_pos a
  have h2 := p2_pos c
  have : p2 a * 1 ≤ p2 a * p2 c := Int.mul_le_mul_of_nonneg_left (by omega) (by omega)
  omega
theorem part_le {x : Int} (h : 1 ≤ x) : part x ≤ 1024 := by
  have := p2_mono (a := (11 - x).toNat) (b := 10) (by omega)
  have e : p2 10 = 1024 := by decide
  unfold part; omega
theorem part_one {x : Int} (h1 : 1 ≤ x) (h2 : x ≤ 11) : part x = 1024 ↔ x = 1 := by
  constructor
  · intro h
    rcases Int.lt_or_le 1 x with h3 | h3
    · have := p2_mono (a := (11 - x).toNat) (b := 9) (by omega)
      have e : p2 9 = 512 := by decide
      unfold part at h; omega
    · omega
  · rintro rfl; decide
def cntP (l : List Int) : Nat → Int
  | 0 => 0
  | i + 1 => cntP l i + if 0 < at0 l i then 1 else 0
def oneAt (l : List Int) : Nat → Bool
  | 0 => false
  | i + 1 => if 0 < at0 l i then decide (at0 l i = 1) else oneAt l i
theorem cntP_bd (l : List Int) : ∀ i, 0 ≤ cntP l i ∧ cntP l i ≤ i
  | 0 => by simp [cntP]
  | i + 1 => by have := cntP_bd l i; simp only [cntP]; split <;> omega
theorem tot_bd {l : List Int} (i : Nat) (h : ∀ k, k < i → at0 l k ≤ 11) : 0 ≤ sumTo (taken l) i ∧ sumTo (taken l) i ≤ 1024 * i := by
  induction i with
  | zero => simp [sumTo]
  | succ i ih =>
    have h1 := ih fun k hk => h k (by omega)
    have h2 : 0 ≤ taken l i ∧ taken l i ≤ 1024 := by
      unfold taken
      split
      · exact ⟨Int.le_of_lt (part_pos _), part_le (by omega)⟩
      · omega
    simp only [sumTo]; omega
theorem one_tot {l : List Int} : ∀ i, (∀ k, k < i → at0 l k ≤ 11) → (cntP l i = 0 → sumTo (taken l) i = 0) ∧ (cntP l i = 1 → ∃ x, 1 ≤ x ∧ x ≤ 11 ∧ sumTo (taken l) i = part x ∧ oneAt l i = decide (x = 1))
  | 0, _ => ⟨fun _ => rfl, fun h => by simp [cntP] at h⟩
  | i + 1, h => by
    obtain ⟨h1, h2⟩ := one_tot i fun k hk => h k (by omega)
    have hb := cntP_bd l i
    simp only [cntP, sumTo, oneAt, taken]
    by_cases hp : 0 < at0 l i
    · simp only [hp, if_true]
      refine ⟨fun h3 => by omega, fun h3 => ⟨at0 l i, by omega, h i (by omega), ?_, rfl⟩⟩
      rw [h1 (by omega)]; omega
    · simp only [hp, if_false, Int.add_zero]
      exact ⟨h1, h2⟩
def rightB (l : List Int) : Bool := l.all (fun x => decide (0 ≤ x) && decide (x ≤ 11)) && decide (l.length ≤ 256)
def wholeB (l : List Int) : Bool := rightB l && (decide (total l = 2048) || (decide (cntP l l.length = 1) && decide (total l = 1024)))
theorem right_at {l : List Int} (h : l.all (fun x => decide (0 ≤ x) && decide (x ≤ 11)) = true) (k : Nat) : 0 ≤ at0 l k ∧ at0 l k ≤ 11 := by
  unfold at0
  rw [List.getD_eq_getElem?_getD]
  cases hx : l[k]? with
  | none => simp
  | some x =>
    rw [List.all_eq_true] at h
    have := h x (List.mem_of_getElem? hx)
    simpa using this
theorem whole_prog {l : List Int} (h : rightB l = true) : (decide (2048 - total l = 0) || (decide (cntP l l.length = 1) && oneAt l l.length)) = (decide (total l = 2048) || (decide (cntP l l.length = 1) && decide (total l = 1024))) := by
  simp only [rightB, Bool.and_eq_true] at h
  have h1 := right_at h.1
  have h2 : decide (2048 - total l = 0) = decide (total l = 2048) := by
    congr 1; apply propext; omega
  rw [h2]
  congr 1
  by_cases hc : cntP l l.length = 1
  · obtain ⟨x, a, b, c, d⟩ := (one_tot l.length fun k _ => (h1 k).2).2 hc
    have e : (total l = 1024) = (x = 1) := by
      apply propext
      rw [total, c]; exact part_one a b
    simp only [d, e]
  · simp [hc]
end Go.Proofs.Ytlboioplemlneaa.K
/- Codes of unlike lengths: whether lengths may be, and whether they are whole, by the program and by the document. -/
set_option maxRecDepth 100000
set_option maxHeartbeats 2000000
set_option linter.unusedVariables false
set_option linter.unusedSimpArgs false
namespace Go.Proofs.Ytlboioplemlneaa.K
open Go Go.Proofs
def S : Sys := ⟨F, M, R⟩
theorem S_ok : SysOK Go.Proofs.Try.prog S := ⟨M_ok, by kernel_rfl, F_ok, R_ok⟩
/-- whole numbers that may be read -/
def Iv (H : Heap) (a : Option Addr) (l : List Int) : Prop := 0 < l.length → ∃ b o cs rw, a = some ⟨b, o, none⟩ ∧ H.get b = .cells cs 3 rw ∧ ∀ (i : Nat) x, l[i]? = some x → cs[o + i]? = some (.int .i64 x)
theorem Iv.kp {H H' : Heap} {a : Option Addr} {l : List Int} (h : Iv H a l) (hk : Kp H.next H H') : Iv H' a l := fun hp => by
  obtain ⟨b, o, cs, rw, h1, h2, h3⟩ := h hp
  exact ⟨b, o, cs, rw, h1, (hk.2 b (lt_cells h2)).trans h2, h3⟩
def okL (x : Int) : Bool := decide (0 ≤ x) && decide (x ≤ 11)
def AllOk (l : List Int) : Prop := l.all okL = true
theorem all_succ {p : Int → Bool} {l : List Int} {i : Nat} {x : Int} (h : l[i]? = some x) : (l.take (i + 1)).all p = ((l.take i).all p && p x) := by
  rw [List.take_add_one, h]; simp
theorem all_no {p : Int → Bool} {l : List Int} {i : Nat} {x : Int} (h : l[i]? = some x) (hp : p x = false) : l.all p = false := by
  rw [List.all_eq_false]
  exact ⟨x, List.mem_of_getElem? h, by simp [hp]⟩
theorem rightB_no {l : List Int} {i : Nat} {x : Int} (h : l[i]? = some x) (hp : okL x = false) : rightB l = false := by
  have : l.all (fun x => decide (0 ≤ x) && decide (x ≤ 11)) = false := all_no h hp
  simp only [rightB, this, Bool.false_and]
section
variable {H : Heap} {a : Option Addr} {c : Nat} {l : List Int}
theorem right_t (hl : Iv H a l) (hm : (l.length : Int) ≤ 9223372036854775807) : Wf S 92 [.slice a l.length c] H fun v H' => H' = H ∧ v = .bool (rightB l) := by
  refine w92 rfl rfl _ ?_
  simp [s92]
  refine l92_0 S (fun d e H' => ∃ i : Nat, i ≤ l.length ∧ d = l.length - i ∧ H' = H ∧ e 0 = .slice a l.length c ∧ e 5 = .slice a l.length c ∧ e 6 = .int .i64 l.length ∧ e 7 = .int .i64 i ∧ AllOk (l.take i)) l.length ⟨0, by omega, by omega, rfl, by simp, by simp, by simp, by simp, rfl⟩ ?_
  rintro d e H' ⟨i, hi, rfl, rfl, e0, e5, e6, e7, hok⟩
  by_cases h3 : i < l.length
  · obtain ⟨b, o, cs, rw, rfl, hg, hc⟩ := hl (by omega)
    obtain ⟨x, hx⟩ : ∃ x, l[i]? = some x := ⟨_, List.getElem?_eq_getElem h3⟩
    have hcx := hc i x hx
    have hw : IntKind.i64.wrap ((i : Int) + 1) = (i : Int) + 1 := wi (by omega) (by omega)
    by_cases g1 : x < 0
    · simp [s92_0, e5, e6, e7, h3, addOff, hg, hcx, g1]
      exact rightB_no hx (by simp [okL]; omega)
    by_cases g2 : 11 < x
    · simp [s92_0, e5, e6, e7, h3, addOff, hg, hcx, g1, g2]
      exact rightB_no hx (by simp [okL]; omega)
    · simp [s92_0, e5, e6, e7, h3, addOff, hg, hcx, g1, g2, hw]
      refine ⟨l.length - (i + 1), by omega, i + 1, by omega, rfl, e0, by simp, ?_⟩
      unfold AllOk at *
      rw [all_succ hx, hok]; simp [okL]; omega
  · have h5 : i = l.length := by omega
    subst h5
    have hok' : l.all (fun x => decide (0 ≤ x) && decide (x ≤ 11)) = true := by unfold AllOk at hok; rw [List.take_length] at hok; exact hok
    simp [s92_0, e0, e6, e7]
    simp only [rightB, hok', Bool.true_and]
    congr 1; apply propext; omega
theorem rright_t (hl : Iv H a l) (hm : (l.length : Int) ≤ 9223372036854775807) : Wf S 59 [.slice a l.length c] H fun v H' => H' = H ∧ v = .bool (rightB l) := by
  refine w59 rfl rfl _ ?_
  simp [s59]
  refine l59_0 S (fun d e H' => ∃ i : Nat, i ≤ l.length ∧ d = l.length - i ∧ H' = H ∧ e 0 = .slice a l.length c ∧ e 3 = .int .i64 i ∧ AllOk (l.take i)) l.length ⟨0, by omega, by omega, rfl, by simp, by simp, rfl⟩ ?_
  rintro d e H' ⟨i, hi, rfl, rfl, e0, e3, hok⟩
  by_cases h3 : i < l.length
  · obtain ⟨b, o, cs, rw, rfl, hg, hc⟩ := hl (by omega)
    obtain ⟨x, hx⟩ : ∃ x, l[i]? = some x := ⟨_, List.getElem?_eq_getElem h3⟩
    have hcx := hc i x hx
    have hw : IntKind.i64.wrap ((i : Int) + 1) = (i : Int) + 1 := wi (by omega) (by omega)
    by_cases g1 : x < 0
    · simp [s59_0, e0, e3, h3, addOff, hg, hcx, g1]
      exact rightB_no hx (by simp [okL]; omega)
    by_cases g2 : 11 < x
    · simp [s59_0, e0, e3, h3, addOff, hg, hcx, g1, g2]
      exact rightB_no hx (by simp [okL]; omega)
    · simp [s59_0, e0, e3, h3, addOff, hg, hcx, g1, g2, hw]
      refine ⟨l.length - (i + 1), by omega, i + 1, by omega, rfl, by simp, ?_⟩
      unfold AllOk at *
      rw [all_succ hx, hok]; simp [okL]; omega
  · have h5 : i = l.length := by omega
    subst h5
    have hok' : l.all (fun x => decide (0 ≤ x) && decide (x ≤ 11)) = true := by unfold AllOk at hok; rw [List.take_length] at hok; exact hok
    simp [s59_0, e0, e3]
    simp only [rightB, hok', Bool.true_and]
    congr 1; apply propext; omega
theorem Size_t (H : Heap) (n : Nat) (h1 : n ≤ 30) : Wf S 60 [.int .i64 n] H fun v H' => H' = H ∧ v = .int .i64 (p2 n) := by
  refine w60 rfl rfl _ ?_
  simp [s60]
  refine l60_0 S (fun d e H' => ∃ i : Nat, i ≤ n ∧ d = n - i ∧ H' = H ∧ e 0 = .int .i64 n ∧ e 3 = .int .i64 (p2 i) ∧ e 4 = .int .i64 i) n ⟨0, by omega, by omega, rfl, by simp, by simp [p2], by simp⟩ ?_
  rintro d e H' ⟨i, hi, rfl, rfl, e0, e3, e4⟩
  by_cases h3 : i < n
  · have hw : IntKind.i64.wrap ((i : Int) + 1) = (i : Int) + 1 := wi (by omega) (by omega)
    have hb : p2 i ≤ p2 30 := p2_mono (by omega)
    have hp := p2_pos i
    have e30 : p2 30 = 1073741824 := by decide
    have hw2 : IntKind.i64.wrap (p2 i * 2) = p2 i * 2 := wi (by omega) (by omega)
    simp [s60_0, e0, e3, e4, h3, hw, hw2]
    exact ⟨n - (i + 1), by omega, i + 1, by omega, rfl, by rw [p2_succ]; omega, by omega⟩
  · have h5 : i = n := by omega
    subst h5
    simp [s60_0, e0, e3, e4]
theorem kb_shl {k k' : IntKind} {a b : Int} : kBin .shl (.int k a) (.int k' b) = if b < 0 then none else some (.int k (k.wrap (a * 2 ^ (min b.toNat k.bits)))) := rfl
theorem kb_shr {k k' : IntKind} {a b : Int} : kBin .shr (.int k a) (.int k' b) = if b < 0 then none else some (.int k (a.fdiv (2 ^ (min b.toNat k.bits)))) := rfl
theorem right_len {l : List Int} (h : rightB l = true) : l.length ≤ 256 := by
  simp only [rightB, Bool.and_eq_true, decide_eq_true_eq] at h; exact h.2
theorem right_all {l : List Int} (h : rightB l = true) (k : Nat) : 0 ≤ at0 l k ∧ at0 l k ≤ 11 := by
  simp only [rightB, Bool.and_eq_true] at h; exact right_at h.1 k
theorem at0_of {l : List Int} {i : Nat} {x : Int} (h : l[i]? = some x) : at0 l i = x := by
  unfold at0; rw [List.getD_eq_getElem?_getD, h]; rfl
theorem shl_part {x : Int} (h0 : 0 ≤ x) (h1 : x ≤ 11) : IntKind.i64.wrap (1 * 2 ^ (min (11 - x).toNat IntKind.i64.bits)) = part x := by
  have e : min (11 - x).toNat IntKind.i64.bits = (11 - x).toNat := by
    have : IntKind.i64.bits = 64 := rfl
    omega
  rw [e, Int.one_mul]
  have h2 : p2 (11 - x).toNat ≤ p2 11 := p2_mono (by omega)
  have h3 : p2 11 = 2048 := by decide
  have h4 := p2_pos (11 - x).toNat
  have : (2 : Int) ^ (11 - x).toNat = p2 (11 - x).toNat := rfl
  rw [this, wi (by omega) (by omega)]; rfl
end
end Go.Proofs.Ytlboioplemlneaa.K
/- A heap in an array, plainly: what a step down, or up, keeps; what is on top. -/
set_option maxRecDepth 100000
set_option maxHeartbeats 1000000
set_option linter.unusedVariables false
set_option linter.unusedSimpArgs false
set_option linter.unusedSectionVars false
namespace Go.Proofs.Ytlboioplemlneaa.K
open Go
section
variable {α : Type} [Inhabited α] (lt : α → α → Bool)
/-- an order: none is less than itself the other way round, and what is not less goes on -/
structure Ord : Prop where
  asym : ∀ x y, lt x y = true → lt y x = false
  trans : ∀ x y z, lt y x = false → lt z y = false → lt z x = false
theorem Ord.refl {lt : α → α → Bool} (h : Ord lt) (x : α) : lt x x = false := by
  cases hx : lt x x with
  | false => rfl
  | true => rw [h.asym x x hx] at hx; exact hx.symm ▸ rfl
def ix (l : Array α) (k : Nat) : α := (l[k]?).getD default
theorem ix_of {l : Array α} {k : Nat} {x : α} (h : l[k]? = some x) : ix l k = x := by unfold ix; rw [h]; rfl
theorem ix_get {l : Array α} {k : Nat} (h : k < l.size) : l[k]? = some (ix l k) := by
  unfold ix; rw [Array.getElem?_eq_getElem h]; rfl
theorem ix_swap {l : Array α} {i j k : Nat} (hi : i < l.size) (hj : j < l.size) : ix (l.swap i j hi hj) k = if k = i then ix l j else if k = j then ix l i else ix l k := by
  have h1 : l[i]? = some l[i] := Array.getElem?_eq_getElem hi
  have h2 : l[j]? = some l[j] := Array.getElem?_eq_getElem hj
  unfold ix
  rw [Array.getElem?_swap, h1, h2]
  by_cases hki : k = i
  · subst hki
    by_cases hkj : j = k
    · subst hkj; simp
    · simp [hkj]
  · by_cases hkj : k = j
    · subst hkj; simp [hki]
    · simp [hki, hkj, Ne.symm hki, Ne.symm hkj, show ¬ j = k from fun e => hkj e.symm, show ¬ i = k from fun e => hki e.symm]
/-- behind lo, ahead of n: none is less than the one above it -/
def HeapF (l : Array α) (lo n : Nat) : Prop := ∀ k, 0 < k → k < n → lo ≤ (k - 1) / 2 → lt (ix l k) (ix l ((k - 1) / 2)) = false
structure DInv (l : Array α) (lo n i : Nat) : Prop where
  a : ∀ k, 0 < k → k < n → lo ≤ (k - 1) / 2 → (k - 1) / 2 ≠ i → lt (ix l k) (ix l ((k - 1) / 2)) = false
  b : ∀ k, 0 < k → k < n → (k - 1) / 2 = i → 0 < i → lo ≤ (i - 1) / 2 → lt (ix l k) (ix l ((i - 1) / 2)) = false
  c : lo ≤ i
structure UInv (l : Array α) (n j : Nat) : Prop where
  a : ∀ k, 0 < k → k < n → k ≠ j → lt (ix l k) (ix l ((k - 1) / 2)) = false
  b : ∀ k, 0 < k → k < n → (k - 1) / 2 = j → 0 < j → lt (ix l k) (ix l ((j - 1) / 2)) = false
variable {lt}
theorem DInv.none {l : Array α} {lo n i : Nat} (h : DInv lt l lo n i) (hn : n ≤ 2 * i + 1) : HeapF lt l lo n := fun k h0 h1 h2 => h.a k h0 h1 h2 (by omega)
theorem DInv.stop {l : Array α} {lo n i j : Nat} (ho : Ord lt) (h : DInv lt l lo n i) (hmin : ∀ k, 0 < k → k < n → (k - 1) / 2 = i → lt (ix l k) (ix l j) = false) (hj : lt (ix l j) (ix l i) = false) : HeapF lt l lo n := fun k h0 h1 h2 => by
  by_cases e : (k - 1) / 2 = i
  · rw [e]; exact ho.trans _ _ _ hj (hmin k h0 h1 e)
  · exact h.a k h0 h1 h2 e
theorem DInv.step {l : Array α} {lo n i j : Nat} (ho : Ord lt) (h : DInv lt l lo n i) (h0 : 0 < j) (hjn : j < n) (hp : (j - 1) / 2 = i) (hn : n ≤ l.size) (hmin : ∀ k, 0 < k → k < n → (k - 1) / 2 = i → lt (ix l k) (ix l j) = false)
    (hj : lt (ix l j) (ix l i) = true) : DInv lt (l.swap i j (by omega) (by omega)) lo n j := by
  have hij : i < j := by omega
  have hc := h.c
  refine ⟨fun k k0 k1 k2 k3 => ?_, fun k k0 k1 k2 k3 k4 => ?_, by omega⟩
  · rw [ix_swap, ix_swap]
    by_cases e1 : k = i
    · subst e1
      rw [if_pos rfl, if_neg (by omega), if_neg (by omega)]
      exact h.b j h0 hjn hp k0 k2
    · rw [if_neg e1]
      by_cases e2 : (k - 1) / 2 = i
      · rw [if_pos e2]
        by_cases e3 : k = j
        · rw [if_pos e3]; exact ho.asym _ _ hj
        · rw [if_neg e3]; exact hmin k k0 k1 e2
      · rw [if_neg (show ¬ k = j by omega), if_neg e2, if_neg k3]
        exact h.a k k0 k1 k2 e2
  · rw [ix_swap, ix_swap, hp, if_pos rfl, if_neg (by omega), if_neg (by omega)]
    have := h.a k k0 k1 (by omega) (by omega)
    rw [k2] at this
    exact this
theorem UInv.top {l : Array α} {n : Nat} (h : UInv lt l n 0) : HeapF lt l 0 n := fun k h0 h1 _ => h.a k h0 h1 (by omega)
theorem UInv.stop {l : Array α} {n j : Nat} (h : UInv lt l n j) (hj : lt (ix l j) (ix l ((j - 1) / 2)) = false) : HeapF lt l 0 n := fun k h0 h1 _ => by
  by_cases e : k = j
  · rw [e]; exact hj
  · exact h.a k h0 h1 e
theorem UInv.step {l : Array α} {n i j : Nat} (ho : Ord lt) (h : UInv lt l n j) (h0 : 0 < j) (hjn : j < n) (hp : (j - 1) / 2 = i) (hn : n ≤ l.size)
    (hj : lt (ix l j) (ix l i) = true) : UInv lt (l.swap i j (by omega) (by omega)) n i := by
  have hij : i < j := by omega
  refine ⟨fun k k0 k1 k2 => ?_, fun k k0 k1 k2 k3 => ?_⟩
  · rw [ix_swap, ix_swap, if_neg k2]
    by_cases e1 : k = j
    · subst e1
      rw [if_pos rfl, if_pos hp]
      exact ho.asym _ _ hj
    · rw [if_neg e1]
      by_cases e2 : (k - 1) / 2 = i
      · rw [if_pos e2]
        have := h.a k k0 k1 e1
        rw [e2] at this
        exact ho.trans _ _ _ (ho.asym _ _ hj) this
      · rw [if_neg e2]
        by_cases e3 : (k - 1) / 2 = j
        · rw [if_pos e3]
          have := h.b k k0 k1 e3 h0
          rw [hp] at this
          exact this
        · rw [if_neg e3]; exact h.a k k0 k1 e1
  · rw [ix_swap, ix_swap, if_neg (show ¬ k = i by omega), if_neg (show ¬ (i - 1) / 2 = i by omega), if_neg (show ¬ (i - 1) / 2 = j by omega)]
    have hi := h.a i k3 (by omega) (by omega)
    by_cases e1 : k = j
    · rw [if_pos e1]; exact hi
    · rw [if_neg e1]
      have := h.a k k0 k1 e1
      rw [k2] at this
      exact ho.trans _ _ _ hi this
/-- none is less than what is on top -/
theorem HeapF.least {l : Array α} {n : Nat} (ho : Ord lt) (h : HeapF lt l 0 n) : ∀ k, k < n → lt (ix l k) (ix l 0) = false := by
  intro k
  induction k using Nat.strongRecOn with
  | ind k ih =>
    intro hk
    by_cases e : k = 0
    · rw [e]; exact ho.refl _
    · exact ho.trans _ _ _ (ih ((k - 1) / 2) (by omega) (by omega)) (h k (by omega) hk (by omega))
theorem HeapF.dinv {l : Array α} {lo n : Nat} (h : HeapF lt l (lo + 1) n) : DInv lt l lo n lo := ⟨fun k a b c d => h k a b (by omega), fun k a b c d e => by omega, Nat.le_refl _⟩
theorem HeapF.big {l : Array α} {lo n : Nat} (hn : n ≤ 2 * lo + 1) : HeapF lt l lo n := fun k a b c => by omega
/-- the top and the last one changed places: all but the top holds -/
theorem HeapF.cutD {l : Array α} {n : Nat} (h : HeapF lt l 0 (n + 1)) (hn : n < l.size) : DInv lt (l.swap 0 n (by omega) hn) 0 n 0 := ⟨fun k a b c d => by
    rw [ix_swap, ix_swap, if_neg (by omega), if_neg (by omega), if_neg (by omega), if_neg (by omega)]
    exact h k a (by omega) c, fun k a b c d => by omega, Nat.le_refl _⟩
theorem HeapF.pushU {l : Array α} {n : Nat} (h : HeapF lt l 0 n) {x : α} (hn : n = l.size) : UInv lt (l.push x) (n + 1) n := ⟨fun k a b c => by
    have hk : k < l.size := by omega
    have e1 : ∀ m, m < l.size → ix (l.push x) m = ix l m := fun m hm => by unfold ix; rw [Array.getElem?_push, if_neg (by omega)]
    rw [e1 k hk, e1 _ (by omega)]
    exact h k a (by omega) (by omega), fun k a b c => by omega⟩
end
end Go.Proofs.Ytlboioplemlneaa.K
/- container/heap over anything that is a heap by its own Len, Less and Swap. -/
set_option maxRecDepth 100000
set_option maxHeartbeats 2000000
set_option linter.unusedVariables false
set_option linter.unusedSimpArgs false
namespace Go.Proofs.Ytlboioplemlneaa.K
open Go Go.Proofs
section
variable {α : Type} [Inhabited α]
/-- what stands behind an interface: an array, by Len, Less, Swap -/
structure PQ (lt : α → α → Bool) (a0 : Value) (Q : Heap → Array α → Prop) : Prop where
  len : ∀ H l, Q H l → ∀ K : Kv, K (.int .i64 l.size) H → run S (.inv (.c a0) "Len" []) [] H K
  less : ∀ H l (i j : Nat), Q H l → i < l.size → j < l.size → ∀ K : Kv, (∀ H', Q H' l → K (.bool (lt (ix l i) (ix l j))) H') → run S (.inv (.c a0) "Less" [.c (.int .i64 i), .c (.int .i64 j)]) [] H K
  swap : ∀ H l (i j : Nat) (hi : i < l.size) (hj : j < l.size), Q H l → ∀ K : Kv, (∀ v H', Q H' (l.swap i j hi hj) → K v H') → run S (.inv (.c a0) "Swap" [.c (.int .i64 i), .c (.int .i64 j)]) [] H K
  small : ∀ H l, Q H l → l.size ≤ 1000000
variable {lt : α → α → Bool} {a0 : Value} {Q : Heap → Array α → Prop} {H : Heap} {l : Array α}
/-- the same, in another order; from n on as it was -/
def Same (l l' : Array α) (n : Nat) : Prop := l'.Perm l ∧ ∀ k, n ≤ k → ix l' k = ix l k
theorem Same.refl (l : Array α) (n : Nat) : Same l l n := ⟨Array.Perm.refl _, fun _ _ => rfl⟩
theorem Same.size {l l' : Array α} {n : Nat} (h : Same l l' n) : l'.size = l.size := by
  have := (Array.perm_iff_toList_perm.1 h.1).length_eq
  simpa using this
theorem Same.swap {l l' : Array α} {n i j : Nat} (h : Same l l' n) (hi : i < l'.size) (hj : j < l'.size) (hin : i < n) (hjn : j < n) : Same l (l'.swap i j hi hj) n :=
  ⟨(Array.swap_perm hi hj).trans h.1, fun k hk => by rw [ix_swap, if_neg (by omega), if_neg (by omega)]; exact h.2 k hk⟩
structure DoI (lt : α → α → Bool) (a0 : Value) (Q : Heap → Array α → Prop) (l : Array α) (lo n : Nat) (i0 : Value) (d : Nat) (e : Fe) (H : Heap) (l' : Array α) (i : Nat) : Prop where
  q : Q H l'
  same : Same l l' n
  inv : DInv lt l' lo n i
  h2 : d = n + n - i
  hi : i ≤ n
  e0 : e 0 = a0
  e1 : e 1 = i0
  e2 : e 2 = .int .i64 n
  e7 : e 7 = .int .i64 i
theorem down_t (hq : PQ lt a0 Q) (ho : Ord lt) (h : Q H l) {lo n : Nat} (hn : n ≤ l.size) (hlo : lo ≤ n) (hd : DInv lt l lo n lo) :
    Wf S 131 [a0, .int .i64 lo, .int .i64 n] H fun v H' => ∃ l', Q H' l' ∧ Same l l' n ∧ HeapF lt l' lo n := by
  have hsm := hq.small H l h
  refine w131 rfl rfl _ _ _ ?_
  simp [s131]
  refine l131_0 S (fun d e H' => ∃ l' i, DoI lt a0 Q l lo n (.int .i64 lo) d e H' l' i) (n + n - lo) ⟨l, lo, h, Same.refl _ _, hd, rfl, hlo, by simp, by simp, by simp, by simp⟩ ?_
  rintro d e H1 ⟨l1, i, hq1, hs, hi, rfl, hin, e0, e1, e2, e7⟩
  have hsz := hs.size
  have hlo2 := hi.c
  obtain ⟨j1, hj1⟩ : ∃ j1, j1 = 2 * i + 1 := ⟨_, rfl⟩
  obtain ⟨j2, hj2⟩ : ∃ j2, j2 = 2 * i + 2 := ⟨_, rfl⟩
  obtain ⟨i2, hi2⟩ : ∃ i2, i2 = 2 * i := ⟨_, rfl⟩
  have w1 : IntKind.i64.wrap (2 * (i : Int)) = (i2 : Int) := by rw [wi (by omega) (by omega)]; omega
  have w2 : IntKind.i64.wrap ((i2 : Int) + 1) = (j1 : Int) := by rw [wi (by omega) (by omega)]; omega
  have w3 : IntKind.i64.wrap ((j1 : Int) + 1) = (j2 : Int) := by rw [wi (by omega) (by omega)]; omega
  by_cases h1 : n ≤ j1
  · have h1' : (n : Int) ≤ j1 := by omega
    simp [s131_0, e0, e1, e2, e7, w1, w2, h1, h1']
    exact ⟨l1, hq1, hs, hi.none (by omega)⟩
  have h1' : ¬ (n : Int) ≤ j1 := by omega
  have h1'' : ¬ (j1 : Int) < 0 := by omega
  simp [s131_0, e0, e1, e2, e7, w1, w2, h1, h1', h1'', w3]
  by_cases h2 : j2 < n
  · have h2' : (j2 : Int) < n := by omega
    simp [h2]
    refine hq.less H1 l1 j2 j1 hq1 (by omega) (by omega) _ fun H2 hq2 => ?_
    cases hb : lt (ix l1 j2) (ix l1 j1) with
    | false =>
      simp [e0, e7]
      have hmin : ∀ k, 0 < k → k < n → (k - 1) / 2 = i → lt (ix l1 k) (ix l1 j1) = false := fun k k0 k1 k2 => by
              rcases (by omega : k = j1 ∨ k = j2) with rfl | rfl
              · exact ho.refl _
              · exact hb
      refine hq.less H2 l1 j1 i hq2 (by omega) (by omega) _ fun H3 hq3 => ?_
      cases hb2 : lt (ix l1 j1) (ix l1 i) with
      | false =>
        simp [e1, e7]
        exact ⟨l1, hq3, hs, hi.stop ho hmin hb2⟩
      | true =>
        simp [e0, e7]
        refine hq.swap H3 l1 i j1 (by omega) (by omega) hq3 _ fun v H4 hq4 => ?_
        try simp
        exact ⟨n + n - j1, by omega, _, j1, hq4, hs.swap (by omega) (by omega) (by omega) (by omega), hi.step ho (by omega) (by omega) (by omega) (by omega) hmin hb2, rfl, by omega, by simp [e0], by simp [e1], by simp [e2], by simp⟩
    | true =>
      simp [e0, e7]
      have hmin : ∀ k, 0 < k → k < n → (k - 1) / 2 = i → lt (ix l1 k) (ix l1 j2) = false := fun k k0 k1 k2 => by
              rcases (by omega : k = j1 ∨ k = j2) with rfl | rfl
              · exact ho.asym _ _ hb
              · exact ho.refl _
      refine hq.less H2 l1 j2 i hq2 (by omega) (by omega) _ fun H3 hq3 => ?_
      cases hb2 : lt (ix l1 j2) (ix l1 i) with
      | false =>
        simp [e1, e7]
        exact ⟨l1, hq3, hs, hi.stop ho hmin hb2⟩
      | true =>
        simp [e0, e7]
        refine hq.swap H3 l1 i j2 (by omega) (by omega) hq3 _ fun v H4 hq4 => ?_
        try simp
        exact ⟨n + n - j2, by omega, _, j2, hq4, hs.swap (by omega) (by omega) (by omega) (by omega), hi.step ho (by omega) (by omega) (by omega) (by omega) hmin hb2, rfl, by omega, by simp [e0], by simp [e1], by simp [e2], by simp⟩
  · have h2' : ¬ (j2 : Int) < n := by omega
    simp [h2, e0, e7]
    have hmin : ∀ k, 0 < k → k < n → (k - 1) / 2 = i → lt (ix l1 k) (ix l1 j1) = false := fun k k0 k1 k2 => by
          have : k = j1 := by omega
          subst this
          exact ho.refl _
    refine hq.less H1 l1 j1 i hq1 (by omega) (by omega) _ fun H3 hq3 => ?_
    cases hb2 : lt (ix l1 j1) (ix l1 i) with
    | false =>
      simp [e1, e7]
      exact ⟨l1, hq3, hs, hi.stop ho hmin hb2⟩
    | true =>
      simp [e0, e7]
      refine hq.swap H3 l1 i j1 (by omega) (by omega) hq3 _ fun v H4 hq4 => ?_
      try simp
      exact ⟨n + n - j1, by omega, _, j1, hq4, hs.swap (by omega) (by omega) (by omega) (by omega), hi.step ho (by omega) (by omega) (by omega) (by omega) hmin hb2, rfl, by omega, by simp [e0], by simp [e1], by simp [e2], by simp⟩
structure UpI (lt : α → α → Bool) (a0 : Value) (Q : Heap → Array α → Prop) (l : Array α) (n : Nat) (d : Nat) (e : Fe) (H : Heap) (l' : Array α) (j : Nat) : Prop where
  q : Q H l'
  same : Same l l' n
  inv : UInv lt l' n j
  h2 : d = j
  hj : j < n
  e0 : e 0 = a0
  e1 : e 1 = .int .i64 j
theorem up_t (hq : PQ lt a0 Q) (ho : Ord lt) (h : Q H l) {j : Nat} (hj : j < l.size) (hu : UInv lt l l.size j) :
    Wf S 132 [a0, .int .i64 j] H fun v H' => ∃ l', Q H' l' ∧ Same l l' l.size ∧ HeapF lt l' 0 l.size := by
  have hsm := hq.small H l h
  refine w132 rfl rfl _ _ ?_
  simp [s132]
  refine l132_0 S (fun d e H' => ∃ l' i, UpI lt a0 Q l l.size d e H' l' i) j ⟨l, j, h, Same.refl _ _, hu, rfl, hj, by simp, by simp⟩ ?_
  rintro d e H1 ⟨l1, i, hq1, hs, hi, rfl, hin, e0, e1⟩
  have hsz := hs.size
  by_cases h0 : d = 0
  · subst h0
    have w1 : IntKind.i64.wrap (((0 : Nat) : Int) - 1) = -1 := by decide
    have w2 : IntKind.i64.wrap ((-1 : Int).tdiv 2) = 0 := by decide
    simp [s132_0, e0, e1, w1, w2]
    exact ⟨l1, hq1, hs, hi.top⟩
  · obtain ⟨i, hi0⟩ : ∃ i, i = (d - 1) / 2 := ⟨_, rfl⟩
    obtain ⟨m, hm⟩ : ∃ m, m = d - 1 := ⟨_, rfl⟩
    have w1 : IntKind.i64.wrap ((d : Int) - 1) = (m : Int) := by rw [wi (by omega) (by omega)]; omega
    have w2 : IntKind.i64.wrap ((m : Int).tdiv 2) = (i : Int) := by rw [Int.tdiv_eq_ediv_of_nonneg (by omega), wi (by omega) (by omega)]; omega
    have w2' : IntKind.i64.wrap ((m : Int) / 2) = (i : Int) := by rw [wi (by omega) (by omega)]; omega
    have h1 : ¬ (i : Int) = d := by omega
    have h1' : ¬ i = d := by omega
    simp [s132_0, e0, e1, w1, w2, w2', h1, h1']
    refine hq.less H1 l1 d i hq1 (by omega) (by omega) _ fun H3 hq3 => ?_
    cases hb2 : lt (ix l1 d) (ix l1 i) with
    | false =>
      simp [e1]
      exact ⟨l1, hq3, hs, hi.stop (hi0 ▸ hb2)⟩
    | true =>
      simp [e0, e1]
      refine hq.swap H3 l1 i d (by omega) (by omega) hq3 _ fun v H4 hq4 => ?_
      try simp
      exact ⟨i, by omega, _, i, hq4, hs.swap (by omega) (by omega) (by omega) (by omega), hi.step ho (by omega) (by omega) hi0.symm (by omega) hb2, rfl, by omega, by simp [e0], by simp⟩
structure InI (lt : α → α → Bool) (a0 : Value) (Q : Heap → Array α → Prop) (l : Array α) (d : Nat) (e : Fe) (H : Heap) (l' : Array α) : Prop where
  q : Q H l'
  same : Same l l' l.size
  inv : HeapF lt l' d l.size
  hd : d ≤ l.size
  e0 : e 0 = a0
  e2 : e 2 = .int .i64 l.size
  e3 : e 3 = .int .i64 ((d : Int) - 1)
theorem Init_t (hq : PQ lt a0 Q) (ho : Ord lt) (h : Q H l) :
    Wf S 111 [a0] H fun v H' => ∃ l', Q H' l' ∧ l'.Perm l ∧ HeapF lt l' 0 l.size := by
  have hsm := hq.small H l h
  refine w111 rfl rfl _ ?_
  simp [s111]
  refine hq.len H l h _ ?_
  have w1 : ((l.size : Int)).tdiv 2 = ((l.size / 2 : Nat) : Int) := by rw [Int.tdiv_eq_ediv_of_nonneg (by omega)]; omega
  obtain ⟨m, hm⟩ : ∃ m, m = l.size / 2 := ⟨_, rfl⟩
  rw [← hm] at w1
  have w1' : ((l.size : Int)) / 2 = (m : Int) := by omega
  have w2 : IntKind.i64.wrap (m : Int) = m := wi (by omega) (by omega)
  have w3 : IntKind.i64.wrap ((m : Int) - 1) = (m : Int) - 1 := wi (by omega) (by omega)
  simp [w1, w1', w2, w3]
  refine l111_0 S (fun d e H' => ∃ l', InI lt a0 Q l d e H' l') m ⟨l, h, Same.refl _ _, HeapF.big (by omega), by omega, by simp, by simp, by simp⟩ ?_
  rintro d e H1 ⟨l1, hq1, hs, hi, hd, e0, e2, e3⟩
  have hsz := hs.size
  cases d with
  | zero =>
    simp [s111_0, e0, e2, e3]
    exact ⟨l1, hq1, hs.1, hi⟩
  | succ d =>
    have h1 : (0 : Int) ≤ ((d + 1 : Nat) : Int) - 1 := by omega
    have h2 : ((d + 1 : Nat) : Int) - 1 = (d : Int) := by omega
    have w4 : IntKind.i64.wrap ((d : Int) - 1) = (d : Int) - 1 := wi (by omega) (by omega)
    rw [h2] at e3
    simp [s111_0, e0, e2, e3]
    refine (down_t hq ho hq1 (lo := d) (n := l.size) (by omega) (by omega) hi.dinv).mono ?_
    rintro v H2 ⟨l2, hq2, hs2, hf⟩
    simp [e3, w4]
    exact ⟨d, by omega, l2, hq2, ⟨hs2.1.trans hs.1, fun k hk => (hs2.2 k hk).trans (hs.2 k hk)⟩, hf, by omega, by simp [e0], by simp [e2], by simp⟩
end
end Go.Proofs.Ytlboioplemlneaa.K
/- container/heap: what comes out is least; what is put in. -/
set_option maxRecDepth 100000
set_option maxHeartbeats 2000000
set_option linter.unusedVariables false
set_option linter.unusedSimpArgs false
set_option linter.unusedSectionVars false
namespace Go.Proofs.Ytlboioplemlneaa.K
open Go Go.Proofs
section
variable {α : Type} [Inhabited α]
/-- by Push and Pop, too -/
structure PQ2 (lt : α → α → Bool) (a0 : Value) (Q : Heap → Array α → Prop) (el : α → Value) (El : Heap → α → Prop) : Prop where
  pq : PQ lt a0 Q
  push : ∀ H l x, Q H l → El H x → l.size < 1000000 → ∀ K : Kv, (∀ v H', Q H' (l.push x) → K v H') → run S (.inv (.c a0) "Push" [.c (el x)]) [] H K
  pop : ∀ H l x, Q H (l.push x) → ∀ K : Kv, (∀ H', Q H' l → El H' x → K (el x) H') → run S (.inv (.c a0) "Pop" []) [] H K
variable {lt : α → α → Bool} {a0 : Value} {Q : Heap → Array α → Prop} {el : α → Value} {El : Heap → α → Prop} {H : Heap} {l : Array α}
theorem ix_push_lt {l : Array α} {x : α} {k : Nat} (h : k < l.size) : ix (l.push x) k = ix l k := by unfold ix; rw [Array.getElem?_push, if_neg (by omega)]
theorem ix_push_eq {l : Array α} {x : α} : ix (l.push x) l.size = x := by unfold ix; rw [Array.getElem?_push, if_pos rfl]; rfl
theorem ix_mem {l : Array α} {y : α} (h : y ∈ l) : ∃ k, k < l.size ∧ ix l k = y := by
  obtain ⟨k, hk, e⟩ := Array.mem_iff_getElem.1 h
  exact ⟨k, hk, ix_of (by rw [Array.getElem?_eq_getElem hk, e])⟩
theorem Pop_t (hq : PQ2 lt a0 Q el El) (ho : Ord lt) (h : Q H l) (h0 : 0 < l.size) (hf : HeapF lt l 0 l.size) :
    Wf S 113 [a0] H fun v H' => ∃ x l', v = el x ∧ El H' x ∧ Q H' l' ∧ (l'.push x).Perm l ∧ HeapF lt l' 0 l'.size ∧ ∀ y ∈ l', lt y x = false := by
  have hsm := hq.pq.small H l h
  refine w113 rfl rfl _ ?_
  simp [s113]
  refine hq.pq.len H l h _ ?_
  obtain ⟨n, hn⟩ : ∃ n, l.size = n + 1 := ⟨l.size - 1, by omega⟩
  have w1 : IntKind.i64.wrap ((l.size : Int) - 1) = (n : Int) := by rw [wi (by omega) (by omega)]; omega
  simp [w1]
  rw [hn] at hf
  refine hq.pq.swap H l 0 n (by omega) (by omega) h _ fun v H1 h1 => ?_
  have hd := hf.cutD (by omega : n < l.size)
  refine (down_t hq.pq ho h1 (lo := 0) (n := n) (by rw [Array.size_swap]; omega) (by omega) hd).mono ?_
  rintro v H2 ⟨l2, hq2, hs, hf2⟩
  have hsz := hs.size
  rw [Array.size_swap] at hsz
  obtain ⟨l3, x, rfl⟩ := Array.exists_push_of_size_eq_add_one (by omega : l2.size = n + 1)
  have hn3 : l3.size = n := by rw [Array.size_push] at hsz; omega
  have hx : x = ix l 0 := by
    have := hs.2 n (Nat.le_refl _)
    have e1 : ix (l3.push x) n = x := by rw [← hn3]; exact ix_push_eq
    rw [e1, ix_swap] at this
    rw [this]
    by_cases e : n = 0
    · rw [if_pos e, e]
    · rw [if_neg e, if_pos rfl]
  have hp : (l3.push x).Perm l := hs.1.trans (Array.swap_perm _ _)
  refine hq.pop H2 l3 x hq2 _ fun H3 hq3 hel => ?_
  refine ⟨x, rfl, hel, l3, hq3, hp, fun k k0 k1 k2 => ?_, fun y hy => ?_⟩
  · have := hf2 k k0 (by omega) k2
    rw [ix_push_lt k1, ix_push_lt (by omega)] at this
    exact this
  · have hy : y ∈ l := (Array.Perm.mem_iff hp).1 (Array.mem_push.2 (.inl hy))
    obtain ⟨k, hk, rfl⟩ := ix_mem hy
    rw [hx]
    exact hf.least ho k (by omega)
theorem Push_t (hq : PQ2 lt a0 Q el El) (ho : Ord lt) (h : Q H l) (hf : HeapF lt l 0 l.size) {x : α} (hx : El H x) (hsz : l.size < 1000000) :
    Wf S 114 [a0, el x] H fun v H' => ∃ l', Q H' l' ∧ l'.Perm (l.push x) ∧ HeapF lt l' 0 l'.size := by
  refine w114 rfl rfl _ _ ?_
  simp [s114]
  refine hq.push H l x h hx hsz _ fun v H1 h1 => ?_
  refine hq.pq.len H1 _ h1 _ ?_
  have w1 : IntKind.i64.wrap (((l.push x).size : Int) - 1) = (l.size : Int) := by rw [Array.size_push, wi (by omega) (by omega)]; omega
  have w1' : IntKind.i64.wrap ((l.size : Int) + 1 - 1) = (l.size : Int) := by rw [wi (by omega) (by omega)]; omega
  have w2 : IntKind.i64.wrap (l.size : Int) = (l.size : Int) := wi (by omega) (by omega)
  simp [w1', w2]
  have hu := hf.pushU (x := x) rfl
  rw [show l.size + 1 = (l.push x).size from (Array.size_push ..).symm] at hu
  refine (up_t hq.pq ho h1 (j := l.size) (by rw [Array.size_push]; omega) hu).mono ?_
  rintro v H2 ⟨l2, hq2, hs, hf2⟩
  exact ⟨l2, hq2, hs.1, hs.size ▸ hf2⟩
end
end Go.Proofs.Ytlboioplemlneaa.K
/- A tree of codes as it lies in memory; which of two nodes is the lighter one. -/
set_option maxRecDepth 100000
set_option maxHeartbeats 2000000
set_option linter.unusedVariables false
set_option linter.unusedSimpArgs false
namespace Go.Proofs.Ytlboioplemlneaa.K
open Go Go.Proofs
inductive T where
  | leaf (w s : Nat)
  | two (o : Nat) (l r : T)
  deriving Inhabited
def T.w : T → Nat
  | .leaf w _ => w
  | .two _ l r => l.w + r.w
def T.o : T → Nat
  | .leaf _ s => s
  | .two o _ _ => o
/-- a node that lies at b -/
def Nd (H : Heap) (b : Nat) : T → Prop
  | .leaf w s => H.get b = .cells [.int .i64 w, .int .i64 s, .int .i64 s, .pointer none, .pointer none] 124 true
  | .two o l r => ∃ bl br, H.get b = .cells [.int .i64 ((l.w + r.w : Nat) : Int), .int .i64 o, .int .i64 (-1), .pointer (some ⟨bl, 0, none⟩), .pointer (some ⟨br, 0, none⟩)] 124 true ∧ Nd H bl l ∧ Nd H br r
theorem Nd.get {H : Heap} {b : Nat} {t : T} (h : Nd H b t) : ∃ s l r, H.get b = .cells [.int .i64 t.w, .int .i64 t.o, s, l, r] 124 true := by
  cases t with
  | leaf w s => exact ⟨_, _, _, h⟩
  | two o l r => obtain ⟨bl, br, h1, _⟩ := h; exact ⟨_, _, _, h1⟩
/-- all nodes stand as they stood -/
def KN (H H' : Heap) : Prop := ∀ k cs, H.get k = .cells cs 124 true → H'.get k = H.get k
theorem KN.refl (H : Heap) : KN H H := fun _ _ _ => rfl
theorem KN.trans {A B C : Heap} (h : KN A B) (h' : KN B C) : KN A C := fun k cs hk => (h' k cs ((h k cs hk).trans hk)).trans (h k cs hk)
theorem KN.kp {H H' : Heap} (h : Kp H.next H H') : KN H H' := fun k cs hk => h.2 k (lt_cells hk)
theorem KN.put {H : Heap} {q : Nat} {cs0 : List Value} {t0 : TypeId} {rw0 : Bool} {x : Blk} (hq : H.get q = .cells cs0 t0 rw0) (ht : t0 ≠ 124) : KN H (H.put q x) := fun k cs hk => by
  refine get_put_ne ?_
  rintro rfl
  rw [hq] at hk
  cases hk
  exact ht rfl
theorem Nd.kn {H H' : Heap} (hk : KN H H') : ∀ {t : T} {b : Nat}, Nd H b t → Nd H' b t
  | .leaf w s, b, h => (hk b _ h).trans h
  | .two o l r, b, h => by
    obtain ⟨bl, br, h1, h2, h3⟩ := h
    exact ⟨bl, br, (hk b _ h1).trans h1, Nd.kn hk h2, Nd.kn hk h3⟩
/-- a node and where it lies -/
structure Nt where
  b : Nat
  t : T
  deriving Inhabited
def ltN (x y : Nt) : Bool := decide (x.t.w < y.t.w) || (decide (x.t.w = y.t.w) && decide (x.t.o < y.t.o))
theorem ltN_ord : Ord ltN := ⟨fun x y h => by
    simp only [ltN, Bool.or_eq_true, Bool.and_eq_true, decide_eq_true_eq, Bool.or_eq_false_iff, Bool.and_eq_false_iff, decide_eq_false_iff_not] at *
    omega, fun x y z h1 h2 => by
    simp only [ltN, Bool.or_eq_true, Bool.and_eq_true, decide_eq_true_eq, Bool.or_eq_false_iff, Bool.and_eq_false_iff, decide_eq_false_iff_not] at *
    omega⟩
theorem ltN_w {x y : Nt} (h : ltN y x = false) : x.t.w ≤ y.t.w := by
  simp only [ltN, Bool.or_eq_false_iff, decide_eq_false_iff_not] at h
  omega
def cmpI (x y : Int) : Int := if x < y then -1 else if y < x then 1 else 0
section
variable {H : Heap}
theorem isNaN_t (x : Int) : Wf S 137 [.int .i64 x] H fun v H' => H' = H ∧ v = .bool false := by
  refine w137 rfl rfl _ ?_
  simp [s137]
theorem Compare_t (x y : Int) : Wf S 124 [.int .i64 x, .int .i64 y] H fun v H' => H' = H ∧ v = .int .i64 (cmpI x y) := by
  refine w124 rfl rfl _ _ ?_
  simp [s124]
  refine (isNaN_t x).mono ?_
  rintro v H1 ⟨rfl, rfl⟩
  try simp
  refine (isNaN_t y).mono ?_
  rintro v H1 ⟨rfl, rfl⟩
  by_cases h1 : x < y
  · simp [h1, cmpI]
  · by_cases h2 : y < x
    · simp [h1, h2, cmpI]
    · simp [h1, h2, cmpI]
theorem Or_t {b : Nat} {x y : Int} (h : H.get b = .cells [.int .i64 x, .int .i64 y] 3 true) : Wf S 167 [.slice (some ⟨b, 0, none⟩) 2 2] H fun v H' => H' = H ∧ v = .int .i64 (if x = 0 then y else x) := by
  have w1 : IntKind.i64.wrap 1 = 1 := by decide
  have w2 : IntKind.i64.wrap 2 = 2 := by decide
  refine w167 rfl rfl _ ?_
  simp [s167]
  refine u167_0 S ?_
  by_cases hx : x = 0
  · subst hx
    simp [s167_0, addOff, h, w1, w2]
    refine u167_0 S ?_
    by_cases hy : y = 0
    · subst hy
      simp [s167_0, addOff, h, w1, w2]
      refine u167_0 S ?_
      simp [s167_0, addOff, h, w1, w2]
    · simp [s167_0, addOff, h, hy, w1, w2]
  · simp [s167_0, addOff, h, hx]
end
end Go.Proofs.Ytlboioplemlneaa.K
/- Trees of codes, plainly: leaves, weights, depths; what a tree that was put together two by two, the lightest first, holds. -/
set_option maxRecDepth 100000
set_option maxHeartbeats 1000000
set_option linter.unusedVariables false
set_option linter.unusedSimpArgs false
namespace Go.Proofs.Ytlboioplemlneaa.K
open Go Go.Proofs
/-- symbols and their weights -/
def T.lv : T → List (Nat × Nat)
  | .leaf w s => [(s, w)]
  | .two _ l r => l.lv ++ r.lv
/-- symbols, their weights, and how deep they are -/
def T.dp : T → Nat → List (Nat × Nat × Nat)
  | .leaf w s, d => [(s, w, d)]
  | .two _ l r, d => l.dp (d + 1) ++ r.dp (d + 1)
def T.ht : T → Nat
  | .leaf _ _ => 0
  | .two _ l r => max l.ht r.ht + 1
def T.ic : T → Nat
  | .leaf _ _ => 0
  | .two _ l r => l.w + r.w + l.ic + r.ic
def T.kids : T → List T
  | .leaf _ _ => []
  | .two _ l r => [l, r]
/-- of two that are together neither one's parts weigh more than the other one -/
def T.sib : T → Prop
  | .leaf _ _ => True
  | .two _ l r => (∀ z ∈ l.kids, z.w ≤ r.w) ∧ (∀ z ∈ r.kids, z.w ≤ l.w) ∧ l.sib ∧ r.sib
def T.pos : T → Prop
  | .leaf w _ => 1 ≤ w
  | .two _ l r => l.pos ∧ r.pos
theorem T.pos_w : ∀ {t : T}, t.pos → 1 ≤ t.w
  | .leaf _ _, h => h
  | .two _ l r, h => by have := T.pos_w h.1; simp only [T.w]; omega
theorem T.dp_lv : ∀ (t : T) (d : Nat), (t.dp d).map (fun x => (x.1, x.2.1)) = t.lv
  | .leaf _ _, _ => rfl
  | .two _ l r, d => by simp only [T.dp, T.lv, List.map_append, T.dp_lv l, T.dp_lv r]
theorem T.lv_w : ∀ t : T, (t.lv.map (·.2)).sum = t.w
  | .leaf _ _ => by simp [T.lv, T.w]
  | .two _ l r => by simp only [T.lv, T.w, List.map_append, List.sum_append, T.lv_w l, T.lv_w r]
theorem T.dp_ge : ∀ (t : T) (d : Nat), ∀ x ∈ t.dp d, d ≤ x.2.2 ∧ x.2.2 ≤ d + t.ht
  | .leaf _ _, d, x, h => by simp only [T.dp, List.mem_singleton] at h; subst h; simp [T.ht]
  | .two _ l r, d, x, h => by
    simp only [T.dp, List.mem_append] at h
    simp only [T.ht]
    rcases h with h | h
    · have := T.dp_ge l (d + 1) x h; omega
    · have := T.dp_ge r (d + 1) x h; omega
/-- the sum of weights by depths is the sum of all that was put together -/
theorem T.dp_ic : ∀ (t : T) (d : Nat), ((t.dp d).map (fun x => x.2.1 * x.2.2)).sum = t.ic + t.w * d
  | .leaf _ _, d => by simp [T.dp, T.ic, T.w]
  | .two _ l r, d => by
    simp only [T.dp, T.ic, T.w, List.map_append, List.sum_append, T.dp_ic l, T.dp_ic r, Nat.mul_add, Nat.add_mul, Nat.mul_one]
    omega
/-- all parts of 2 ^ D are taken -/
theorem T.dp_kraft {D : Nat} : ∀ (t : T) (d : Nat), d + t.ht ≤ D → ((t.dp d).map (fun x => 2 ^ (D - x.2.2))).sum = 2 ^ (D - d)
  | .leaf _ _, d, _ => by simp [T.dp]
  | .two _ l r, d, h => by
    simp only [T.ht] at h
    simp only [T.dp, List.map_append, List.sum_append]
    rw [T.dp_kraft l (d + 1) (by omega), T.dp_kraft r (d + 1) (by omega)]
    have : D - d = (D - (d + 1)) + 1 := by omega
    rw [this, Nat.pow_succ]; omega
def fib : Nat → Nat
  | 0 => 1
  | 1 => 2
  | n + 2 => fib (n + 1) + fib n
theorem fib_mono : ∀ n, fib n ≤ fib (n + 1)
  | 0 => by decide
  | 1 => by decide
  | n + 2 => by simp only [fib]; omega
theorem fib_le {m n : Nat} (h : m ≤ n) : fib m ≤ fib n := by
  induction h with
  | refl => exact Nat.le_refl _
  | step _ ih => exact Nat.le_trans ih (fib_mono _)
theorem T.ht_kid {t : T} {n : Nat} (h : t.ht = n + 1) : ∃ z ∈ t.kids, z.ht = n := by
  cases t with
  | leaf => simp [T.ht] at h
  | two o l r =>
    simp only [T.ht] at h
    rcases (by omega : l.ht = n ∨ r.ht = n) with e | e
    · exact ⟨l, by simp [T.kids], e⟩
    · exact ⟨r, by simp [T.kids], e⟩
theorem T.kid_ok {t z : T} (hz : z ∈ t.kids) : (t.sib → z.sib) ∧ (t.pos → z.pos) ∧ z.ht < t.ht ∧ z.w ≤ t.w := by
  cases t with
  | leaf => simp [T.kids] at hz
  | two o l r =>
    simp only [T.kids, List.mem_cons, List.not_mem_nil, or_false] at hz
    rcases hz with rfl | rfl
    · exact ⟨fun h => h.2.2.1, fun h => h.1, by simp only [T.ht]; omega, by simp only [T.w]; omega⟩
    · exact ⟨fun h => h.2.2.2, fun h => h.2, by simp only [T.ht]; omega, by simp only [T.w]; omega⟩
/-- a tree that is that deep weighs so much -/
theorem T.fib_w : ∀ (n : Nat) (t : T), t.ht = n → t.sib → t.pos → fib n ≤ t.w := by
  intro n
  induction n using Nat.strongRecOn with
  | ind n ih =>
    intro t hn hs hp
    match n, hn with
    | 0, _ => exact T.pos_w hp
    | 1, hn =>
      cases t with
      | leaf => simp [T.ht] at hn
      | two o l r =>
        have := T.pos_w hp.1; have := T.pos_w hp.2
        simp only [T.w, fib]; omega
    | n + 2, hn =>
      cases t with
      | leaf => simp [T.ht] at hn
      | two o l r =>
        simp only [T.ht] at hn
        obtain ⟨s1, s2, s3, s4⟩ := hs
        simp only [T.w, fib]
        rcases (by omega : l.ht = n + 1 ∨ r.ht = n + 1) with e | e
        · obtain ⟨z, hz, hzn⟩ := T.ht_kid e
          have k := T.kid_ok hz
          have h1 := ih (n + 1) (by omega) l e s3 hp.1
          have h2 := ih n (by omega) z hzn (k.1 s3) (k.2.1 hp.1)
          have := s1 z hz
          omega
        · obtain ⟨z, hz, hzn⟩ := T.ht_kid e
          have k := T.kid_ok hz
          have h1 := ih (n + 1) (by omega) r e s4 hp.2
          have h2 := ih n (by omega) z hzn (k.1 s4) (k.2.1 hp.2)
          have := s2 z hz
          omega
/-- a tree of up to 376 in all is at most 11 deep -/
theorem T.shallow {t : T} (hs : t.sib) (hp : t.pos) (hw : t.w ≤ 376) : t.ht ≤ 11 := by
  by_cases h : t.ht ≤ 11
  · exact h
  · exfalso
    have h1 := T.fib_w t.ht t rfl hs hp
    have h2 := fib_le (show 12 ≤ t.ht by omega)
    have h3 : fib 12 = 377 := by decide
    omega
/-- what is in the queue: parts weigh no more than any other one -/
structure Wood (l : List T) : Prop where
  kid : ∀ x ∈ l, ∀ y ∈ l, ∀ z ∈ x.kids, z.w ≤ y.w
  sib : ∀ x ∈ l, x.sib
  pos : ∀ x ∈ l, x.pos
theorem Wood.perm {l l' : List T} (h : Wood l) (hp : l'.Perm l) : Wood l' := ⟨fun x hx y hy => h.kid x (hp.mem_iff.1 hx) y (hp.mem_iff.1 hy), fun x hx => h.sib x (hp.mem_iff.1 hx), fun x hx => h.pos x (hp.mem_iff.1 hx)⟩
theorem Wood.two {a b : T} {l : List T} {o : Nat} (h : Wood (a :: b :: l)) (ha : ∀ y ∈ b :: l, a.w ≤ y.w) (hb : ∀ y ∈ l, b.w ≤ y.w) : Wood (.two o a b :: l) := by
  have hab := ha b (by simp)
  have ma : a ∈ a :: b :: l := by simp
  have mb : b ∈ a :: b :: l := by simp
  have ml : ∀ {y}, y ∈ l → y ∈ a :: b :: l := fun hy => by simp [hy]
  refine ⟨fun x hx y hy z hz => ?_, fun x hx => ?_, fun x hx => ?_⟩
  · rcases List.mem_cons.1 hx with rfl | hx
    · simp only [T.kids, List.mem_cons, List.not_mem_nil, or_false] at hz
      rcases List.mem_cons.1 hy with rfl | hy
      · simp only [T.w]; rcases hz with rfl | rfl <;> omega
      · have h1 := ha y (by simp [hy])
        have h2 := hb y hy
        rcases hz with rfl | rfl
        · exact h1
        · exact h2
    · rcases List.mem_cons.1 hy with rfl | hy
      · have := h.kid x (ml hx) a ma z hz
        simp only [T.w]; omega
      · exact h.kid x (ml hx) y (ml hy) z hz
  · rcases List.mem_cons.1 hx with rfl | hx
    · exact ⟨fun z hz => h.kid a ma b mb z hz, fun z hz => h.kid b mb a ma z hz, h.sib a ma, h.sib b mb⟩
    · exact h.sib x (ml hx)
  · rcases List.mem_cons.1 hx with rfl | hx
    · exact ⟨h.pos a ma, h.pos b mb⟩
    · exact h.pos x (ml hx)
/-- the least cost: two lightest at a time -/
inductive Hc : List Nat → Nat → Prop
  | one (x : Nat) : Hc [x] 0
  | two {W W' : List Nat} {a b c : Nat} (hp : W.Perm (a :: b :: W')) (ha : ∀ y ∈ b :: W', a ≤ y) (hb : ∀ y ∈ W', b ≤ y) (h : Hc ((a + b) :: W') c) : Hc W (a + b + c)
theorem Hc.perm {W V : List Nat} {c : Nat} (h : Hc W c) (hp : V.Perm W) : Hc V c := by
  cases h with
  | one x => rw [List.perm_singleton.1 hp]; exact .one x
  | two h1 h2 h3 h4 => exact .two (hp.trans h1) h2 h3 h4
theorem least_eq {a a' : Nat} {l l' : List Nat} (hp : (a :: l).Perm (a' :: l')) (h : ∀ y ∈ l, a ≤ y) (h' : ∀ y ∈ l', a' ≤ y) : a = a' := by
  have m1 : a ∈ a' :: l' := hp.mem_iff.1 (by simp)
  have m2 : a' ∈ a :: l := hp.mem_iff.2 (by simp)
  rcases List.mem_cons.1 m1 with e | m1
  · exact e
  rcases List.mem_cons.1 m2 with e | m2
  · exact e.symm
  exact Nat.le_antisymm (h _ m2) (h' _ m1)
theorem Hc.uniq {W : List Nat} {c : Nat} (h : Hc W c) : ∀ {V : List Nat} {c' : Nat}, Hc V c' → V.Perm W → c' = c := by
  induction h with
  | one x =>
    intro V c' h hp
    rw [List.perm_singleton.1 hp] at h
    cases h with
    | one => rfl
    | two h1 _ _ _ => have := h1.length_eq; simp at this
  | two h1 h2 h3 h4 ih =>
    rename_i W W' a b c
    intro V c' h hp
    cases h with
    | one x =>
      have := (hp.trans h1).length_eq; simp at this
    | two k1 k2 k3 k4 =>
      rename_i V' a' b' c2
      have hq : (a' :: b' :: V').Perm (a :: b :: W') := k1.symm.trans (hp.trans h1)
      have ea : a' = a := least_eq hq k2 h2
      subst ea
      have hq2 := (List.perm_cons _).1 hq
      have eb : b' = b := least_eq hq2 k3 h3
      subst eb
      have hq3 := (List.perm_cons _).1 hq2
      rw [ih k4 (List.Perm.cons _ hq3)]
end Go.Proofs.Ytlboioplemlneaa.K
/- Two lightest at a time by bubbles, plainly: one pass. -/
set_option maxRecDepth 100000
set_option maxHeartbeats 1000000
set_option linter.unusedVariables false
set_option linter.unusedSimpArgs false
namespace Go.Proofs.Ytlboioplemlneaa.K
open Go Go.Proofs
def nts (L : List Nat) : List Value := L.map fun x : Nat => .int .i64 (x : Int)
theorem nts_len (L : List Nat) : (nts L).length = L.length := by simp [nts]
theorem nts_get {L : List Nat} {i : Nat} {x : Nat} (h : L[i]? = some x) : (nts L)[i]? = some (.int .i64 (x : Int)) := by simp [nts, h]
theorem nts_set (L : List Nat) (i x : Nat) : (nts L).set i (.int .i64 (x : Int)) = nts (L.set i x) := by simp [nts]
def nx (L : List Nat) (i : Nat) : Nat := L.getD i 0
theorem nx_of {L : List Nat} {i x : Nat} (h : L[i]? = some x) : nx L i = x := by unfold nx; rw [List.getD_eq_getElem?_getD, h]; rfl
theorem nx_get {L : List Nat} {i : Nat} (h : i < L.length) : L[i]? = some (nx L i) := by
  unfold nx; rw [List.getD_eq_getElem?_getD, List.getElem?_eq_getElem h]; rfl
/-- two neighbours change places -/
def sw1 (L : List Nat) (i : Nat) : List Nat := (L.set i (nx L (i - 1))).set (i - 1) (nx L i)
theorem sw1_len (L : List Nat) (i : Nat) : (sw1 L i).length = L.length := by simp [sw1]
theorem sw1_at {L : List Nat} {i : Nat} (h0 : 0 < i) (h : i < L.length) (k : Nat) : nx (sw1 L i) k = if k = i then nx L (i - 1) else if k = i - 1 then nx L i else nx L k := by
  unfold nx sw1
  rw [List.getD_eq_getElem?_getD, List.getElem?_set, List.length_set, List.getElem?_set]
  by_cases h1 : k = i
  · subst h1
    rw [if_neg (by omega), if_pos rfl, if_pos rfl, if_pos h]; rfl
  · by_cases h2 : k = i - 1
    · subst h2
      rw [if_pos rfl, if_pos (by omega), if_neg h1, if_pos rfl]; rfl
    · rw [if_neg (by omega), if_neg (by omega), if_neg h1, if_neg h2, List.getD_eq_getElem?_getD]
theorem sw1_perm {L : List Nat} {i : Nat} (h0 : 0 < i) (h : i < L.length) : (sw1 L i).Perm L := by
  have h1 := Array.swap_perm (xs := L.toArray) (i := i) (j := i - 1) (by simpa using h) (by simp; omega)
  have h2 := Array.perm_iff_toList_perm.1 h1
  have e : (L.toArray.swap i (i - 1) (by simpa using h) (by simp; omega)).toList = sw1 L i := by
    apply List.ext_getElem?
    intro k
    rw [Array.getElem?_toList, Array.getElem?_swap]
    have hi := nx_get h
    have hj := nx_get (L := L) (i := i - 1) (by omega)
    have a1 : L.toArray[i] = nx L i := by
      have := List.getElem?_eq_getElem h
      rw [hi] at this; simpa using this.symm
    have a2 : L.toArray[i - 1]'(by simp; omega) = nx L (i - 1) := by
      have := List.getElem?_eq_getElem (show i - 1 < L.length by omega)
      rw [hj] at this; simpa using this.symm
    unfold sw1
    rw [List.getElem?_set, List.length_set, List.getElem?_set, a1, a2]
    by_cases k1 : i - 1 = k
    · rw [if_pos k1, if_pos k1, if_pos (by omega)]
    · rw [if_neg k1, if_neg k1]
      by_cases k2 : i = k
      · rw [if_pos k2, if_pos k2, if_pos h]
      · rw [if_neg k2, if_neg k2]; simp
  rw [e] at h2
  simpa using h2
/-- what stands at i is least of all from there on -/
structure Bub (L0 L : List Nat) (k i : Nat) : Prop where
  p : L.Perm L0
  k0 : ∀ j, j < k → nx L j = nx L0 j
  least : ∀ j, i ≤ j → j < L.length → nx L i ≤ nx L j
theorem Bub.start {L0 : List Nat} {k : Nat} : Bub L0 L0 k (L0.length - 1) := ⟨List.Perm.refl _, fun _ _ => rfl, fun j h1 h2 => by rw [show j = L0.length - 1 by omega]; exact Nat.le_refl _⟩
theorem Bub.keep {L0 L : List Nat} {k i : Nat} (h : Bub L0 L k i) (hi : k < i) (hl : i < L.length) (hx : ¬ nx L i < nx L (i - 1)) : Bub L0 L k (i - 1) := ⟨h.p, h.k0, fun j h1 h2 => by
  by_cases e : j = i - 1
  · rw [e]; exact Nat.le_refl _
  · have := h.least j (by omega) h2; omega⟩
theorem Bub.swap {L0 L : List Nat} {k i : Nat} (h : Bub L0 L k i) (hi : k < i) (hl : i < L.length) (hx : nx L i < nx L (i - 1)) : Bub L0 (sw1 L i) k (i - 1) := ⟨(sw1_perm (by omega) hl).trans h.p, fun j hj => by
    rw [sw1_at (by omega) hl]
    rw [if_neg (by omega)]
    by_cases e : j = i - 1
    · omega
    · rw [if_neg e]; exact h.k0 j hj, fun j h1 h2 => by
    rw [sw1_len] at h2
    rw [sw1_at (by omega) hl, sw1_at (by omega) hl, if_neg (show ¬ i - 1 = i by omega), if_pos rfl]
    by_cases e1 : j = i
    · rw [if_pos e1]; omega
    · rw [if_neg e1]
      by_cases e2 : j = i - 1
      · rw [if_pos e2]; exact Nat.le_refl _
      · rw [if_neg e2]; exact h.least j (by omega) h2⟩
end Go.Proofs.Ytlboioplemlneaa.K
/- No depths that fill all cost less than Huffman's sums. Plainly. -/
set_option maxRecDepth 100000
set_option maxHeartbeats 2000000
set_option linter.unusedVariables false
set_option linter.unusedSimpArgs false
namespace Go.Proofs.Ytlboioplemlneaa.K
open Go Go.Proofs
abbrev Wd := Nat × Nat
def cst (xs : List Wd) : Nat := (xs.map fun x => x.1 * x.2).sum
def krf (D : Nat) (xs : List Wd) : Nat := (xs.map fun x => 2 ^ (D - x.2)).sum
theorem cst_perm {xs ys : List Wd} (h : xs.Perm ys) : cst xs = cst ys := (h.map _).sum_nat
theorem krf_perm {D : Nat} {xs ys : List Wd} (h : xs.Perm ys) : krf D xs = krf D ys := (h.map _).sum_nat
theorem perm_of_map {a : Nat} {W : List Nat} : ∀ {xs : List Wd}, (xs.map (·.1)).Perm (a :: W) → ∃ d ys, xs.Perm ((a, d) :: ys) ∧ (ys.map (·.1)).Perm W := by
  intro xs h
  have hm : a ∈ xs.map (·.1) := h.mem_iff.2 (by simp)
  obtain ⟨x, hx, rfl⟩ := List.mem_map.1 hm
  have hp := List.perm_cons_erase hx
  refine ⟨x.2, xs.erase x, hp, ?_⟩
  have := (hp.map (·.1)).symm.trans h
  exact (List.perm_cons _).1 this
/-- the lighter one is put where another one is deepest: that costs no more -/
theorem swap_deep {a d M : Nat} {ys : List Wd} {D : Nat} (ha : ∀ y ∈ ys, a ≤ y.1) (hM : d ≤ M) (hd : d = M ∨ ∃ y ∈ ys, y.2 = M) :
    ∃ zs, (zs.map (·.1)).Perm (ys.map (·.1)) ∧ ((d :: ys.map (·.2)).Perm (M :: zs.map (·.2))) ∧ cst ((a, M) :: zs) ≤ cst ((a, d) :: ys) := by
  rcases hd with rfl | ⟨y, hy, hyM⟩
  · exact ⟨ys, List.Perm.refl _, List.Perm.refl _, Nat.le_refl _⟩
  · have hp := List.perm_cons_erase hy
    obtain ⟨w, e⟩ := y
    simp only at hyM
    subst hyM
    refine ⟨(w, d) :: ys.erase (w, e), ?_, ?_, ?_⟩
    · exact (hp.map (·.1)).symm
    · have h1 := (hp.map (·.2)).cons d
      refine h1.trans ?_
      exact List.Perm.swap _ _ _
    · have h1 := ha (w, e) hy
      have h2 : cst ((a, d) :: ys) = a * d + (w * e + cst (ys.erase (w, e))) := by
        have := cst_perm (hp.cons (a, d))
        rw [this]; simp [cst]
      have h3 : cst ((a, e) :: (w, d) :: ys.erase (w, e)) = a * e + (w * d + cst (ys.erase (w, e))) := by simp [cst]
      rw [h2, h3]
      obtain ⟨u, rfl⟩ : ∃ u, w = a + u := ⟨w - a, by simp only at h1; omega⟩
      obtain ⟨v, rfl⟩ : ∃ v, e = d + v := ⟨e - d, by omega⟩
      have e1 : a * (d + v) = a * d + a * v := Nat.mul_add _ _ _
      have e2 : (a + u) * d = a * d + u * d := Nat.add_mul _ _ _
      have e3 : (a + u) * (d + v) = a * d + a * v + (u * d + u * v) := by rw [Nat.add_mul, Nat.mul_add, Nat.mul_add]
      rw [e1, e2, e3]; omega
/-- how many are that deep -/
def cntD (M : Nat) (l : List Nat) : Nat := (l.filter fun d => d = M).length
def krfD (D : Nat) (l : List Nat) : Nat := (l.map fun d => 2 ^ (D - d)).sum
theorem krfD_par {M : Nat} : ∀ {l : List Nat}, (∀ d ∈ l, d ≤ M) → krfD M l % 2 = cntD M l % 2
  | [], _ => rfl
  | d :: l, h => by
    have ih := krfD_par (l := l) fun x hx => h x (by simp [hx])
    have hd := h d (by simp)
    simp only [krfD, List.map_cons, List.sum_cons, cntD, List.filter_cons] at *
    by_cases e : d = M
    · subst e; simp; omega
    · simp only [e, decide_false, Bool.false_eq_true, if_false]
      obtain ⟨k, hk⟩ : ∃ k, M - d = k + 1 := ⟨M - d - 1, by omega⟩
      rw [hk, Nat.pow_succ]; omega
/-- with all filled and more than one there, there are two deepest ones -/
theorem two_deep {M : Nat} {l : List Nat} (hM : ∀ d ∈ l, d ≤ M) (hm : M ∈ l) (hk : krfD M l = 2 ^ M) (h2 : 2 ≤ l.length) : 1 ≤ M ∧ 2 ≤ cntD M l := by
  have h1 : 1 ≤ M := by
    rcases Nat.eq_zero_or_pos M with h0 | h0
    · exfalso
      subst h0
      have : ∀ l : List Nat, krfD 0 l = l.length := fun l => by
        induction l with
        | nil => rfl
        | cons x l ih => simp only [krfD, List.map_cons, List.sum_cons, List.length_cons] at *; rw [ih]; simp; omega
      rw [this] at hk; simp at hk; omega
    · exact h0
  refine ⟨h1, ?_⟩
  have hp := krfD_par hM
  have hc : 0 < cntD M l := List.length_pos_of_mem (List.mem_filter.2 ⟨hm, by simp⟩)
  obtain ⟨k, rfl⟩ : ∃ k, M = k + 1 := ⟨M - 1, by omega⟩
  rw [hk, Nat.pow_succ] at hp
  omega
theorem krfD_scale {M D : Nat} (hMD : M ≤ D) : ∀ {l : List Nat}, (∀ d ∈ l, d ≤ M) → krfD D l = krfD M l * 2 ^ (D - M)
  | [], _ => by simp [krfD]
  | d :: l, h => by
    have ih := krfD_scale hMD (l := l) fun x hx => h x (by simp [hx])
    have hd := h d (by simp)
    simp only [krfD, List.map_cons, List.sum_cons] at *
    rw [ih, Nat.add_mul, ← Nat.pow_add]
    congr 2; omega
theorem krf_eq (D : Nat) (xs : List Wd) : krf D xs = krfD D (xs.map (·.2)) := by simp [krf, krfD, List.map_map, Function.comp_def]
theorem krfD_perm {D : Nat} {l l' : List Nat} (h : l.Perm l') : krfD D l = krfD D l' := (h.map _).sum_nat
theorem cntD_perm {M : Nat} {l l' : List Nat} (h : l.Perm l') : cntD M l = cntD M l' := (h.filter _).length_eq
theorem max_ex : ∀ {l : List Nat}, l ≠ [] → ∃ M ∈ l, ∀ d ∈ l, d ≤ M
  | [d], _ => ⟨d, by simp, by simp⟩
  | d :: e :: l, _ => by
    obtain ⟨M, hM, h⟩ := max_ex (l := e :: l) (by simp)
    by_cases hd : d ≤ M
    · exact ⟨M, by simp [List.mem_cons.1 hM], fun x hx => by
        rcases List.mem_cons.1 hx with rfl | hx
        · exact hd
        · exact h x hx⟩
    · exact ⟨d, by simp, fun x hx => by
        rcases List.mem_cons.1 hx with rfl | hx
        · exact Nat.le_refl _
        · have := h x hx; omega⟩
/-- no depths that fill all cost less -/
theorem Hc.min {W : List Nat} {c : Nat} (h : Hc W c) : ∀ (D : Nat) (xs : List Wd), (xs.map (·.1)).Perm W → (∀ x ∈ xs, x.2 ≤ D) → krf D xs = 2 ^ D → c ≤ cst xs := by
  induction h with
  | one x => intros; omega
  | two hp ha hb h ih =>
    rename_i W W' a b c
    intro D xs hx hD hk
    obtain ⟨da, ys, hxs, hys⟩ := perm_of_map (hx.trans hp)
    -- the depths
    have hne : (xs.map (·.2)) ≠ [] := by
      intro e
      have := (hxs.map (·.2)).length_eq
      rw [e] at this; simp at this
    obtain ⟨M, hM, hmax⟩ := max_ex hne
    have hMD : M ≤ D := by
      obtain ⟨x, hx, rfl⟩ := List.mem_map.1 hM
      exact hD x hx
    have hlen : 2 ≤ (xs.map (·.2)).length := by
      have h1 := (hxs.map (·.2)).length_eq
      have h2 := hys.length_eq
      simp at h1 h2 ⊢
      omega
    rw [krf_eq, krfD_scale hMD hmax] at hk
    have hkM : krfD M (xs.map (·.2)) = 2 ^ M := by
      have : 2 ^ D = 2 ^ M * 2 ^ (D - M) := by rw [← Nat.pow_add]; congr 1; omega
      rw [this] at hk
      exact Nat.eq_of_mul_eq_mul_right (Nat.pow_pos (by omega)) hk
    obtain ⟨hM1, hc2⟩ := two_deep hmax hM hkM hlen
    have hdp : (xs.map (·.2)).Perm (da :: ys.map (·.2)) := hxs.map _
    have hmax1 : ∀ d ∈ da :: ys.map (·.2), d ≤ M := fun d hd => hmax d (hdp.mem_iff.2 hd)
    -- a goes down
    obtain ⟨zs, hz1, hz2, hz3⟩ := swap_deep (a := a) (d := da) (M := M) (ys := ys) (D := D) (fun y hy => ha y.1 (hys.mem_iff.1 (List.mem_map.2 ⟨y, hy, rfl⟩))) (hmax1 da (by simp)) (by
      have : M ∈ da :: ys.map (·.2) := hdp.mem_iff.1 hM
      rcases List.mem_cons.1 this with e | e
      · exact .inl e.symm
      · obtain ⟨y, hy, e⟩ := List.mem_map.1 e
        exact .inr ⟨y, hy, e⟩)
    obtain ⟨db, us, hzs, hus⟩ := perm_of_map (hz1.trans hys)
    have hzd : (zs.map (·.2)).Perm (db :: us.map (·.2)) := hzs.map _
    have hmax2 : ∀ d ∈ M :: zs.map (·.2), d ≤ M := fun d hd => hmax1 d (hz2.mem_iff.2 hd)
    -- another one is as deep
    have hcz : 1 ≤ cntD M (zs.map (·.2)) := by
      have := cntD_perm (M := M) (hdp.trans hz2)
      rw [this] at hc2
      simp [cntD, List.filter_cons] at hc2
      simp [cntD]; omega
    obtain ⟨vs, hv1, hv2, hv3⟩ := swap_deep (a := b) (d := db) (M := M) (ys := us) (D := D) (fun y hy => hb y.1 (hus.mem_iff.1 (List.mem_map.2 ⟨y, hy, rfl⟩))) (hmax2 db (by
      right; exact hzd.mem_iff.2 (by simp))) (by
      obtain ⟨d, hd⟩ := List.exists_mem_of_length_pos (show 0 < ((zs.map (·.2)).filter fun d => d = M).length from hcz)
      have hd := List.mem_filter.1 hd
      have e : d = M := by simpa using hd.2
      rcases List.mem_cons.1 (hzd.mem_iff.1 hd.1) with e2 | e2
      · left; omega
      · obtain ⟨y, hy, e3⟩ := List.mem_map.1 e2
        exact .inr ⟨y, hy, by omega⟩)
    -- the two are put together
    have hdepth : (xs.map (·.2)).Perm (M :: M :: vs.map (·.2)) := (hdp.trans hz2).trans ((hzd.trans hv2).cons M)
    have hD2 : ∀ x ∈ (a + b, M - 1) :: vs, x.2 ≤ D := fun x hx => by
      rcases List.mem_cons.1 hx with rfl | hx
      · simp only; omega
      · have : x.2 ∈ xs.map (·.2) := hdepth.mem_iff.2 (by simp; exact .inr ⟨x.1, hx⟩)
        have := hmax _ this
        omega
    have hk2 : krf D ((a + b, M - 1) :: vs) = 2 ^ D := by
      have h1 := krfD_perm (D := D) hdepth
      rw [krfD_scale hMD hmax, hk] at h1
      simp only [krfD, List.map_cons, List.sum_cons] at h1
      simp only [krf, List.map_cons, List.sum_cons]
      rw [show D - (M - 1) = (D - M) + 1 by omega, Nat.pow_succ]
      have e : (vs.map fun x => 2 ^ (D - x.2)).sum = ((vs.map (·.2)).map fun d => 2 ^ (D - d)).sum := by rw [List.map_map]; rfl
      rw [e]; omega
    have hw2 : (((a + b, M - 1) :: vs).map (·.1)).Perm ((a + b) :: W') := (hv1.trans hus).cons _
    have hi := ih D _ hw2 hD2 hk2
    have c1 : cst xs = cst ((a, da) :: ys) := cst_perm hxs
    have c2 : cst ((a, M) :: zs) = a * M + cst ((b, db) :: us) := by
      have := cst_perm (hzs.cons (a, M))
      rw [this]; simp [cst]
    have c3 : cst ((b, M) :: vs) = b * M + cst vs := by simp [cst]
    have c4 : cst ((a + b, M - 1) :: vs) = (a + b) * (M - 1) + cst vs := by simp [cst]
    have c5 : a * M + b * M = (a + b) * (M - 1) + (a + b) := by
      obtain ⟨m, rfl⟩ : ∃ m, M = m + 1 := ⟨M - 1, by omega⟩
      rw [Nat.add_sub_cancel, ← Nat.add_mul, Nat.mul_succ]
    omega
end Go.Proofs.Ytlboioplemlneaa.K
