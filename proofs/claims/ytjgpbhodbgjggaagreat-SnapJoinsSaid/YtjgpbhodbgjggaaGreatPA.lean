/- Codes of unlike lengths, in plain numbers: what is ahead of a symbol, and its code. -/
import Derived.Test.YtjgpbhodbgjggaaGreatKF1
import Derived.Test.YtjgpbhodbgjggaaGreatKLowSh1
import Derived.Test.YtjgpbhodbgjggaaGreatKLowPrim
import Derived.Test.YtjgpbhodbgjggaaGreatKF3
set_option linter.unusedVariables false
set_option linter.unusedSimpArgs false
namespace Go.Proofs.YtjgpbhodbgjggaaGreat.K
def sumTo (f : Nat → Int) : Nat → Int
  | 0 => 0
  | n + 1 => sumTo f n + f n
theorem sumTo_congr {f g : Nat → Int} : ∀ n, (∀ k, k < n → f k = g k) → sumTo f n = sumTo g n
  | 0, _ => rfl
  | n + 1, h => by simp only [sumTo]; rw [sumTo_congr n fun k hk => h k (by omega), h n (by omega)]
theorem sumTo_le {f g : Nat → Int} : ∀ n, (∀ k, k < n → f k ≤ g k) → sumTo f n ≤ sumTo g n
  | 0, _ => by simp [sumTo]
  | n + 1, h => by
    simp only [sumTo]
    have := sumTo_le n fun k hk => h k (by omega)
    have := h n (by omega)
    omega
theorem sumTo_nonneg {f : Nat → Int} (n : Nat) (h : ∀ k, k < n → 0 ≤ f k) : 0 ≤ sumTo f n := by
  have := sumTo_le (f := fun _ => 0) (g := f) n h
  have hz : ∀ n, sumTo (fun _ => 0) n = 0 := by
    intro n
    induction n with
    | zero => rfl
    | succ n ih => simp [sumTo, ih]
  rw [hz] at this; exact this
theorem sumTo_add (f g : Nat → Int) : ∀ n, sumTo (fun k => f k + g k) n = sumTo f n + sumTo g n
  | 0 => by simp [sumTo]
  | n + 1 => by simp only [sumTo, sumTo_add f g n]; omega
theorem sumTo_mono {f : Nat → Int} {n m : Nat} (h : n ≤ m) (hf : ∀ k, k < m → 0 ≤ f k) : sumTo f n ≤ sumTo f m := by
  induction m with
  | zero => have : n = 0 := by omega
            subst this; exact Int.le_refl _
  | succ m ih =>
    by_cases hm : n = m + 1
    · subst hm; exact Int.le_refl _
    · have := ih (by omega) fun k hk => hf k (by omega)
      have := hf m (by omega)
      simp only [sumTo]; omega
/-- one place more in a sum -/
theorem sumTo_one {f g : Nat → Int} {i : Nat} {c : Int} : ∀ n, i < n → (∀ k, k < n → k ≠ i → f k ≤ g k) → f i + c ≤ g i → sumTo f n + c ≤ sumTo g n
  | 0, h, _, _ => by omega
  | n + 1, h, hf, hi => by
    simp only [sumTo]
    by_cases hn : i = n
    · subst hn
      have := sumTo_le (f := f) (g := g) i fun k hk => hf k (by omega) (by omega)
      omega
    · have := sumTo_one (f := f) (g := g) n (by omega) (fun k hk hne => hf k (by omega) hne) hi
      have := hf n (by omega) (by omega)
      omega
def p2 (n : Nat) : Int := 2 ^ n
theorem p2_pos (n : Nat) : 0 < p2 n := by unfold p2; exact Int.pow_pos (by omega)
theorem p2_succ (n : Nat) : p2 (n + 1) = 2 * p2 n := by unfold p2; rw [Int.pow_succ]; omega
theorem p2_add (a b : Nat) : p2 (a + b) = p2 a * p2 b := by unfold p2; exact Int.pow_add _ _ _
def at0 (l : List Int) (k : Nat) : Int := l.getD k 0
/-- of 2048 parts, those that a code of this length takes -/
def part (x : Int) : Int := p2 (11 - x).toNat
theorem part_pos (x : Int) : 0 < part x := p2_pos _
/-- the parts of all that is shorter, and of the first s that are as long -/
def before (l : List Int) (n : Int) (s : Nat) (k : Nat) : Int := if 0 < at0 l k ∧ (at0 l k < n ∨ at0 l k = n ∧ k < s) then part (at0 l k) else 0
theorem before_nonneg (l : List Int) (n : Int) (s k : Nat) : 0 ≤ before l n s k := by
  unfold before; split
  · exact Int.le_of_lt (part_pos _)
  · exact Int.le_refl _
def ahead (l : List Int) (n : Int) (s : Nat) : Int := sumTo (before l n s) l.length
def taken (l : List Int) (k : Nat) : Int := if 0 < at0 l k then part (at0 l k) else 0
def total (l : List Int) : Int := sumTo (taken l) l.length
theorem ahead_nonneg (l : List Int) (n : Int) (s : Nat) : 0 ≤ ahead l n s := sumTo_nonneg _ fun k _ => before_nonneg l n s k
theorem ahead_succ {l : List Int} {n : Int} {s : Nat} (h0 : 0 < n) (hs : s < l.length) : ahead l n (s + 1) = ahead l n s + if at0 l s = n then part n else 0 := by
  unfold ahead
  have key : ∀ m, sumTo (before l n (s + 1)) m = sumTo (before l n s) m + if s < m ∧ at0 l s = n then part n else 0 := by
    intro m
    induction m with
    | zero => simp [sumTo]
    | succ m ih =>
      simp only [sumTo, ih]
      have hb : before l n (s + 1) m = before l n s m + if m = s ∧ at0 l s = n then part n else 0 := by
        unfold before
        by_cases hm : m = s
        · subst hm
          by_cases hn : at0 l m = n
          · rw [hn]
            rw [if_pos (by omega), if_neg (by omega)]; simp
          · simp only [hn, and_false, if_false, Int.add_zero]
            congr 1
            simp [hn]
        · simp only [hm, false_and, if_false, Int.add_zero]
          congr 1
          have : (m < s + 1) = (m < s) := by apply propext; omega
          rw [this]
      rw [hb]
      by_cases hn : at0 l s = n
      · by_cases h1 : s < m
        · rw [if_pos ⟨h1, hn⟩, if_neg (by omega), if_pos ⟨by omega, hn⟩]; omega
        · by_cases h2 : m = s
          · rw [if_neg (by omega), if_pos ⟨h2, hn⟩, if_pos ⟨by omega, hn⟩]; omega
          · rw [if_neg (by omega), if_neg (by omega), if_neg (by omega)]; omega
      · simp [hn]
  rw [key]
  simp [hs]
theorem ahead_next {l : List Int} {n : Int} : ahead l (n + 1) 0 = ahead l n l.length := by
  unfold ahead
  refine sumTo_congr _ fun k hk => ?_
  unfold before
  congr 1
  apply propext
  constructor
  · rintro ⟨h1, h2⟩; exact ⟨h1, by omega⟩
  · rintro ⟨h1, h2⟩; exact ⟨h1, by omega⟩
theorem ahead_start (l : List Int) : ahead l 1 0 = 0 := by
  unfold ahead
  have : sumTo (before l 1 0) l.length = sumTo (fun _ => 0) l.length := sumTo_congr _ fun k _ => by
    unfold before; rw [if_neg (by omega)]
  rw [this]
  have hz : ∀ n, sumTo (fun _ => 0) n = 0 := by
    intro n
    induction n with
    | zero => rfl
    | succ n ih => simp [sumTo, ih]
  exact hz _
theorem ahead_total (l : List Int) (n : Int) (s : Nat) : ahead l n s ≤ total l := by
  refine sumTo_le _ fun k _ => ?_
  unfold before taken
  split
  · rename_i h; rw [if_pos h.1]; exact Int.le_refl _
  · split
    · exact Int.le_of_lt (part_pos _)
    · exact Int.le_refl _
/-- one that is ahead of another one takes its own part ahead of that -/
theorem ahead_lt {l : List Int} {i k : Nat} (hi : i < l.length) (hp : 0 < at0 l i) (h : at0 l i < at0 l k ∨ at0 l i = at0 l k ∧ i < k) : ahead l (at0 l i) i + part (at0 l i) ≤ ahead l (at0 l k) k := by
  refine sumTo_one _ hi (fun j _ hj => ?_) ?_
  · unfold before
    by_cases h1 : 0 < at0 l j ∧ (at0 l j < at0 l i ∨ at0 l j = at0 l i ∧ j < i)
    · rw [if_pos h1, if_pos ⟨h1.1, by omega⟩]; exact Int.le_refl _
    · rw [if_neg h1]
      split
      · exact Int.le_of_lt (part_pos _)
      · exact Int.le_refl _
  · unfold before
    rw [if_neg (by omega), if_pos ⟨hp, h⟩]; omega
theorem ahead_end {l : List Int} {i : Nat} (hi : i < l.length) (hp : 0 < at0 l i) : ahead l (at0 l i) i + part (at0 l i) ≤ total l := by
  refine sumTo_one _ hi (fun j _ hj => ?_) ?_
  · unfold before taken
    by_cases h1 : 0 < at0 l j ∧ (at0 l j < at0 l i ∨ at0 l j = at0 l i ∧ j < i)
    · rw [if_pos h1, if_pos h1.1]; exact Int.le_refl _
    · rw [if_neg h1]
      split
      · exact Int.le_of_lt (part_pos _)
      · exact Int.le_refl _
  · unfold before taken
    rw [if_neg (by omega), if_pos hp]; omega
/-- the code that is next, as the program reckons it -/
def codeAt (l : List Int) : Nat → Nat → Int
  | 0, _ => 0
  | n + 1, 0 => 2 * codeAt l n l.length
  | n + 1, s + 1 => codeAt l (n + 1) s + if at0 l s = n + 1 then 1 else 0
theorem codeAt_ahead {l : List Int} : ∀ (n : Nat), 1 ≤ n → n ≤ 11 → ∀ s, s ≤ l.length → codeAt l n s * part n = ahead l n s := by
  intro n
  induction n with
  | zero => intro h; omega
  | succ n ih =>
    intro _ hn s
    induction s with
    | zero =>
      intro _
      by_cases h0 : n = 0
      · subst h0
        have := ahead_start l
        simp only [codeAt]
        simpa using this.symm
      · have := ih (by omega) (by omega) l.length (Nat.le_refl _)
        simp only [codeAt]
        have e1 : ((n + 1 : Nat) : Int) = (n : Int) + 1 := by omega
        rw [e1, ahead_next, ← this]
        have e2 : part (n : Int) = 2 * part ((n : Int) + 1) := by
          unfold part
          rw [show (11 - (n : Int)).toNat = (11 - ((n : Int) + 1)).toNat + 1 by omega, p2_succ]
        rw [e2, Int.mul_comm 2 (codeAt l n l.length), Int.mul_assoc]
    | succ s ihs =>
      intro hs
      have h1 := ihs (by omega)
      have h2 := ahead_succ (l := l) (n := ((n + 1 : Nat) : Int)) (s := s) (by omega) (by omega)
      rw [h2, ← h1]
      simp only [codeAt]
      rw [Int.add_mul]
      congr 1
      have e1 : ((n + 1 : Nat) : Int) = (n : Int) + 1 := by omega
      rw [e1]
      split <;> simp
/-- the code of a symbol -/
def codeOf (l : List Int) (i : Nat) : Int := if 0 < at0 l i then codeAt l (at0 l i).toNat i else 0
theorem codeOf_div {l : List Int} {i : Nat} (hi : i < l.length) (h0 : 0 < at0 l i) (h1 : at0 l i ≤ 11) : codeOf l i = ahead l (at0 l i) i / part (at0 l i) ∧ codeOf l i * part (at0 l i) = ahead l (at0 l i) i := by
  have h := codeAt_ahead (l := l) (at0 l i).toNat (by omega) (by omega) i (by omega)
  have e : (((at0 l i).toNat : Nat) : Int) = at0 l i := by omega
  rw [e] at h
  unfold codeOf
  rw [if_pos h0]
  refine ⟨?_, h⟩
  rw [← h, Int.mul_ediv_cancel _ (by have := part_pos (at0 l i); omega)]
theorem p2_mono {a b : Nat} (h : a ≤ b) : p2 a ≤ p2 b := by
  obtain ⟨c, rfl⟩ := Nat.exists_eq_add_of_le h
  rw [p2_add]
  have h1 := p2_pos a
  have h2 := p2_pos c
  have : p2 a * 1 ≤ p2 a * p2 c := Int.mul_le_mul_of_nonneg_left (by omega) (by omega)
  omega
theorem part_le {x : Int} (h : 1 ≤ x) : part x ≤ 1024 := by
  have := p2_mono (a := (11 - x).toNat) (b := 10) (by omega)
  have e : p2 10 = 1024 := by decide
  unfold part; omega
theorem part_one {x : Int} (h1 : 1 ≤ x) (h2 : x ≤ 11) : part x = 1024 ↔ x = 1 := by
  constructor
  · intro h
    rcases Int.lt_or_le 1 x with h3 | h3
    · have := p2_mono (a := (11 - x).toNat) (b := 9) (by omega)
      have e : p2 9 = 512 := by decide
      unfold part at h; omega
    · omega
  · rintro rfl; decide
def cntP (l : List Int) : Nat → Int
  | 0 => 0
  | i + 1 => cntP l i + if 0 < at0 l i then 1 else 0
def oneAt (l : List Int) : Nat → Bool
  | 0 => false
  | i + 1 => if 0 < at0 l i then decide (at0 l i = 1) else oneAt l i
theorem cntP_bd (l : List Int) : ∀ i, 0 ≤ cntP l i ∧ cntP l i ≤ i
  | 0 => by simp [cntP]
  | i + 1 => by have := cntP_bd l i; simp only [cntP]; split <;> omega
theorem tot_bd {l : List Int} (i : Nat) (h : ∀ k, k < i → at0 l k ≤ 11) : 0 ≤ sumTo (taken l) i ∧ sumTo (taken l) i ≤ 1024 * i := by
  induction i with
  | zero => simp [sumTo]
  | succ i ih =>
    have h1 := ih fun k hk => h k (by omega)
    have h2 : 0 ≤ taken l i ∧ taken l i ≤ 1024 := by
      unfold taken
      split
      · exact ⟨Int.le_of_lt (part_pos _), part_le (by omega)⟩
      · omega
    simp only [sumTo]; omega
theorem one_tot {l : List Int} : ∀ i, (∀ k, k < i → at0 l k ≤ 11) → (cntP l i = 0 → sumTo (taken l) i = 0) ∧ (cntP l i = 1 → ∃ x, 1 ≤ x ∧ x ≤ 11 ∧ sumTo (taken l) i = part x ∧ oneAt l i = decide (x = 1))
  | 0, _ => ⟨fun _ => rfl, fun h => by simp [cntP] at h⟩
  | i + 1, h => by
    obtain ⟨h1, h2⟩ := one_tot i fun k hk => h k (by omega)
    have hb := cntP_bd l i
    simp only [cntP, sumTo, oneAt, taken]
    by_cases hp : 0 < at0 l i
    · simp only [hp, if_true]
      refine ⟨fun h3 => by omega, fun h3 => ⟨at0 l i, by omega, h i (by omega), ?_, rfl⟩⟩
      rw [h1 (by omega)]; omega
    · simp only [hp, if_false, Int.add_zero]
      exact ⟨h1, h2⟩
def rightB (l : List Int) : Bool := l.all (fun x => decide (0 ≤ x) && decide (x ≤ 11)) && decide (l.length ≤ 256)
def wholeB (l : List Int) : Bool := rightB l && (decide (total l = 2048) || (decide (cntP l l.length = 1) && decide (total l = 1024)))
theorem right_at {l : List Int} (h : l.all (fun x => decide (0 ≤ x) && decide (x ≤ 11)) = true) (k : Nat) : 0 ≤ at0 l k ∧ at0 l k ≤ 11 := by
  unfold at0
  rw [List.getD_eq_getElem?_getD]
  cases hx : l[k]? with
  | none => simp
  | some x =>
    rw [List.all_eq_true] at h
    have := h x (List.mem_of_getElem? hx)
    simpa using this
theorem whole_prog {l : List Int} (h : rightB l = true) : (decide (2048 - total l = 0) || (decide (cntP l l.length = 1) && oneAt l l.length)) = (decide (total l = 2048) || (decide (cntP l l.length = 1) && decide (total l = 1024))) := by
  simp only [rightB, Bool.and_eq_true] at h
  have h1 := right_at h.1
  have h2 : decide (2048 - total l = 0) = decide (total l = 2048) := by
    congr 1; apply propext; omega
  rw [h2]
  congr 1
  by_cases hc : cntP l l.length = 1
  · obtain ⟨x, a, b, c, d⟩ := (one_tot l.length fun k _ => (h1 k).2).2 hc
    have e : (total l = 1024) = (x = 1) := by
      apply propext
      rw [total, c]; exact part_one a b
    simp only [d, e]
  · simp [hc]
end Go.Proofs.YtjgpbhodbgjggaaGreat.K
/- Codes of unlike lengths: whether lengths may be, and whether they are whole, by the program and by the document. -/
set_option maxRecDepth 100000
set_option maxHeartbeats 2000000
set_option linter.unusedVariables false
set_option linter.unusedSimpArgs false
namespace Go.Proofs.YtjgpbhodbgjggaaGreat.K
open Go Go.Proofs
def S : Sys := ⟨F, M, R, Bk⟩
theorem S_ok : SysOK Go.Proofs.Tryz.prog S := ⟨M_ok, by kernel_rfl, F_ok, R_ok, Bk_ok⟩
/-- whole numbers that may be read -/
def Iv (H : Heap) (a : Option Addr) (l : List Int) : Prop := 0 < l.length → ∃ b o cs rw, a = some ⟨b, o, none⟩ ∧ H.get b = .cells cs 3 rw ∧ ∀ (i : Nat) x, l[i]? = some x → cs[o + i]? = some (.int .i64 x)
theorem Iv.kp {H H' : Heap} {a : Option Addr} {l : List Int} (h : Iv H a l) (hk : Kp H.next H H') : Iv H' a l := fun hp => by
  obtain ⟨b, o, cs, rw, h1, h2, h3⟩ := h hp
  exact ⟨b, o, cs, rw, h1, (hk.2 b (lt_cells h2)).trans h2, h3⟩
def okL (x : Int) : Bool := decide (0 ≤ x) && decide (x ≤ 11)
def AllOk (l : List Int) : Prop := l.all okL = true
theorem all_succ {p : Int → Bool} {l : List Int} {i : Nat} {x : Int} (h : l[i]? = some x) : (l.take (i + 1)).all p = ((l.take i).all p && p x) := by
  rw [List.take_add_one, h]; simp
theorem all_no {p : Int → Bool} {l : List Int} {i : Nat} {x : Int} (h : l[i]? = some x) (hp : p x = false) : l.all p = false := by
  rw [List.all_eq_false]
  exact ⟨x, List.mem_of_getElem? h, by simp [hp]⟩
theorem rightB_no {l : List Int} {i : Nat} {x : Int} (h : l[i]? = some x) (hp : okL x = false) : rightB l = false := by
  have : l.all (fun x => decide (0 ≤ x) && decide (x ≤ 11)) = false := all_no h hp
  simp only [rightB, this, Bool.false_and]
section
variable {H : Heap} {a : Option Addr} {c : Nat} {l : List Int}
theorem right_t (hl : Iv H a l) (hm : (l.length : Int) ≤ 9223372036854775807) : Wf S 234 [.slice a l.length c] H fun v H' => H' = H ∧ v = .bool (rightB l) := by
  refine w234 rfl rfl _ ?_
  simp [s234]
  refine l234_0 S (fun d e H' => ∃ i : Nat, i ≤ l.length ∧ d = l.length - i ∧ H' = H ∧ e 0 = .slice a l.length c ∧ e 5 = .slice a l.length c ∧ e 6 = .int .i64 l.length ∧ e 7 = .int .i64 i ∧ AllOk (l.take i)) l.length ⟨0, by omega, by omega, rfl, by simp, by simp, by simp, by simp, rfl⟩ ?_
  rintro d e H' ⟨i, hi, rfl, rfl, e0, e5, e6, e7, hok⟩
  by_cases h3 : i < l.length
  · obtain ⟨b, o, cs, rw, rfl, hg, hc⟩ := hl (by omega)
    obtain ⟨x, hx⟩ : ∃ x, l[i]? = some x := ⟨_, List.getElem?_eq_getElem h3⟩
    have hcx := hc i x hx
    have hw : IntKind.i64.wrap ((i : Int) + 1) = (i : Int) + 1 := wi (by omega) (by omega)
    by_cases g1 : x < 0
    · simp [s234_0, e5, e6, e7, h3, addOff, hg, hcx, g1]
      exact rightB_no hx (by simp [okL]; omega)
    by_cases g2 : 11 < x
    · simp [s234_0, e5, e6, e7, h3, addOff, hg, hcx, g1, g2]
      exact rightB_no hx (by simp [okL]; omega)
    · simp [s234_0, e5, e6, e7, h3, addOff, hg, hcx, g1, g2, hw]
      refine ⟨l.length - (i + 1), by omega, i + 1, by omega, rfl, e0, by simp, ?_⟩
      unfold AllOk at *
      rw [all_succ hx, hok]; simp [okL]; omega
  · have h5 : i = l.length := by omega
    subst h5
    have hok' : l.all (fun x => decide (0 ≤ x) && decide (x ≤ 11)) = true := by unfold AllOk at hok; rw [List.take_length] at hok; exact hok
    simp [s234_0, e0, e6, e7]
    simp only [rightB, hok', Bool.true_and]
    congr 1; apply propext; omega
theorem rright_t (hl : Iv H a l) (hm : (l.length : Int) ≤ 9223372036854775807) : Wf S 209 [.slice a l.length c] H fun v H' => H' = H ∧ v = .bool (rightB l) := by
  refine w209 rfl rfl _ ?_
  simp [s209]
  refine l209_0 S (fun d e H' => ∃ i : Nat, i ≤ l.length ∧ d = l.length - i ∧ H' = H ∧ e 0 = .slice a l.length c ∧ e 3 = .int .i64 i ∧ AllOk (l.take i)) l.length ⟨0, by omega, by omega, rfl, by simp, by simp, rfl⟩ ?_
  rintro d e H' ⟨i, hi, rfl, rfl, e0, e3, hok⟩
  by_cases h3 : i < l.length
  · obtain ⟨b, o, cs, rw, rfl, hg, hc⟩ := hl (by omega)
    obtain ⟨x, hx⟩ : ∃ x, l[i]? = some x := ⟨_, List.getElem?_eq_getElem h3⟩
    have hcx := hc i x hx
    have hw : IntKind.i64.wrap ((i : Int) + 1) = (i : Int) + 1 := wi (by omega) (by omega)
    by_cases g1 : x < 0
    · simp [s209_0, e0, e3, h3, addOff, hg, hcx, g1]
      exact rightB_no hx (by simp [okL]; omega)
    by_cases g2 : 11 < x
    · simp [s209_0, e0, e3, h3, addOff, hg, hcx, g1, g2]
      exact rightB_no hx (by simp [okL]; omega)
    · simp [s209_0, e0, e3, h3, addOff, hg, hcx, g1, g2, hw]
      refine ⟨l.length - (i + 1), by omega, i + 1, by omega, rfl, by simp, ?_⟩
      unfold AllOk at *
      rw [all_succ hx, hok]; simp [okL]; omega
  · have h5 : i = l.length := by omega
    subst h5
    have hok' : l.all (fun x => decide (0 ≤ x) && decide (x ≤ 11)) = true := by unfold AllOk at hok; rw [List.take_length] at hok; exact hok
    simp [s209_0, e0, e3]
    simp only [rightB, hok', Bool.true_and]
    congr 1; apply propext; omega
theorem Size_t (H : Heap) (n : Nat) (h1 : n ≤ 30) : Wf S 132 [.int .i64 n] H fun v H' => H' = H ∧ v = .int .i64 (p2 n) := by
  refine w132 rfl rfl _ ?_
  simp [s132]
  refine l132_0 S (fun d e H' => ∃ i : Nat, i ≤ n ∧ d = n - i ∧ H' = H ∧ e 0 = .int .i64 n ∧ e 3 = .int .i64 (p2 i) ∧ e 4 = .int .i64 i) n ⟨0, by omega, by omega, rfl, by simp, by simp [p2], by simp⟩ ?_
  rintro d e H' ⟨i, hi, rfl, rfl, e0, e3, e4⟩
  by_cases h3 : i < n
  · have hw : IntKind.i64.wrap ((i : Int) + 1) = (i : Int) + 1 := wi (by omega) (by omega)
    have hb : p2 i ≤ p2 30 := p2_mono (by omega)
    have hp := p2_pos i
    have e30 : p2 30 = 1073741824 := by decide
    have hw2 : IntKind.i64.wrap (p2 i * 2) = p2 i * 2 := wi (by omega) (by omega)
    simp [s132_0, e0, e3, e4, h3, hw, hw2]
    exact ⟨n - (i + 1), by omega, i + 1, by omega, rfl, by rw [p2_succ]; omega, by omega⟩
  · have h5 : i = n := by omega
    subst h5
    simp [s132_0, e0, e3, e4]
theorem kb_shl {k k' : IntKind} {a b : Int} : kBin .shl (.int k a) (.int k' b) = if b < 0 then none else some (.int k (k.wrap (a * 2 ^ (min b.toNat k.bits)))) := rfl
theorem kb_shr {k k' : IntKind} {a b : Int} : kBin .shr (.int k a) (.int k' b) = if b < 0 then none else some (.int k (a.fdiv (2 ^ (min b.toNat k.bits)))) := rfl
theorem right_len {l : List Int} (h : rightB l = true) : l.length ≤ 256 := by
  simp only [rightB, Bool.and_eq_true, decide_eq_true_eq] at h; exact h.2
theorem right_all {l : List Int} (h : rightB l = true) (k : Nat) : 0 ≤ at0 l k ∧ at0 l k ≤ 11 := by
  simp only [rightB, Bool.and_eq_true] at h; exact right_at h.1 k
theorem at0_of {l : List Int} {i : Nat} {x : Int} (h : l[i]? = some x) : at0 l i = x := by
  unfold at0; rw [List.getD_eq_getElem?_getD, h]; rfl
theorem shl_part {x : Int} (h0 : 0 ≤ x) (h1 : x ≤ 11) : IntKind.i64.wrap (1 * 2 ^ (min (11 - x).toNat IntKind.i64.bits)) = part x := by
  have e : min (11 - x).toNat IntKind.i64.bits = (11 - x).toNat := by
    have : IntKind.i64.bits = 64 := rfl
    omega
  rw [e, Int.one_mul]
  have h2 : p2 (11 - x).toNat ≤ p2 11 := p2_mono (by omega)
  have h3 : p2 11 = 2048 := by decide
  have h4 := p2_pos (11 - x).toNat
  have : (2 : Int) ^ (11 - x).toNat = p2 (11 - x).toNat := rfl
  rw [this, wi (by omega) (by omega)]; rfl
end
end Go.Proofs.YtjgpbhodbgjggaaGreat.K
