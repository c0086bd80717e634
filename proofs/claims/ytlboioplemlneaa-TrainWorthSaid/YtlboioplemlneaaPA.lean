/- A heap in an array, plainly: what a step down, or up, keeps; what is on top. -/
import Derived.Test.YtlboioplemlneaaKF3
import Derived.Test.YtlboioplemlneaaKF1
import Derived.Test.YtlboioplemlneaaKLowSh1
import Derived.Test.YtlboioplemlneaaKLowPrim
set_option maxRecDepth 100000
set_option maxHeartbeats 1000000
set_option linter.unusedVariables false
set_option linter.unusedSimpArgs false
set_option linter.unusedSectionVars false
namespace Go.Proofs.Ytlboioplemlneaa.K
open Go
section
variable {α : Type} [Inhabited α] (lt : α → α → Bool)
/-- an order: none is less than itself the other way round, and what is not less goes on -/
structure Ord : Prop where
  asym : ∀ x y, lt x y = true → lt y x = false
  trans : ∀ x y z, lt y x = false → lt z y = false → lt z x = false
theorem Ord.refl {lt : α → α → Bool} (h : Ord lt) (x : α) : lt x x = false := by
  cases hx : lt x x with
  | false => rfl
  | true => rw [h.asym x x hx] at hx; exact hx.symm ▸ rfl
def ix (l : Array α) (k : Nat) : α := (l[k]?).getD default
theorem ix_of {l : Array α} {k : Nat} {x : α} (h : l[k]? = some x) : ix l k = x := by unfold ix; rw [h]; rfl
theorem ix_get {l : Array α} {k : Nat} (h : k < l.size) : l[k]? = some (ix l k) := by
  unfold ix; rw [Array.getElem?_eq_getElem h]; rfl
theorem ix_swap {l : Array α} {i j k : Nat} (hi : i < l.size) (hj : j < l.size) : ix (l.swap i j hi hj) k = if k = i then ix l j else if k = j then ix l i else ix l k := by
  have h1 : l[i]? = some l[i] := Array.getElem?_eq_getElem hi
  have h2 : l[j]? = some l[j] := Array.getElem?_eq_getElem hj
  unfold ix
  rw [Array.getElem?_swap, h1, h2]
  by_cases hki : k = i
  · subst hki
    by_cases hkj : j = k
    · subst hkj; simp
    · simp [hkj]
  · by_cases hkj : k = j
    · subst hkj; simp [hki]
    · simp [hki, hkj, Ne.symm hki, Ne.symm hkj, show ¬ j = k from fun e => hkj e.symm, show ¬ i = k from fun e => hki e.symm]
/-- behind lo, ahead of n: none is less than the one above it -/
def HeapF (l : Array α) (lo n : Nat) : Prop := ∀ k, 0 < k → k < n → lo ≤ (k - 1) / 2 → lt (ix l k) (ix l ((k - 1) / 2)) = false
structure DInv (l : Array α) (lo n i : Nat) : Prop where
  a : ∀ k, 0 < k → k < n → lo ≤ (k - 1) / 2 → (k - 1) / 2 ≠ i → lt (ix l k) (ix l ((k - 1) / 2)) = false
  b : ∀ k, 0 < k → k < n → (k - 1) / 2 = i → 0 < i → lo ≤ (i - 1) / 2 → lt (ix l k) (ix l ((i - 1) / 2)) = false
  c : lo ≤ i
structure UInv (l : Array α) (n j : Nat) : Prop where
  a : ∀ k, 0 < k → k < n → k ≠ j → lt (ix l k) (ix l ((k - 1) / 2)) = false
  b : ∀ k, 0 < k → k < n → (k - 1) / 2 = j → 0 < j → lt (ix l k) (ix l ((j - 1) / 2)) = false
variable {lt}
theorem DInv.none {l : Array α} {lo n i : Nat} (h : DInv lt l lo n i) (hn : n ≤ 2 * i + 1) : HeapF lt l lo n := fun k h0 h1 h2 => h.a k h0 h1 h2 (by omega)
theorem DInv.stop {l : Array α} {lo n i j : Nat} (ho : Ord lt) (h : DInv lt l lo n i) (hmin : ∀ k, 0 < k → k < n → (k - 1) / 2 = i → lt (ix l k) (ix l j) = false) (hj : lt (ix l j) (ix l i) = false) : HeapF lt l lo n := fun k h0 h1 h2 => by
  by_cases e : (k - 1) / 2 = i
  · rw [e]; exact ho.trans _ _ _ hj (hmin k h0 h1 e)
  · exact h.a k h0 h1 h2 e
theorem DInv.step {l : Array α} {lo n i j : Nat} (ho : Ord lt) (h : DInv lt l lo n i) (h0 : 0 < j) (hjn : j < n) (hp : (j - 1) / 2 = i) (hn : n ≤ l.size) (hmin : ∀ k, 0 < k → k < n → (k - 1) / 2 = i → lt (ix l k) (ix l j) = false)
    (hj : lt (ix l j) (ix l i) = true) : DInv lt (l.swap i j (by omega) (by omega)) lo n j := by
  have hij : i < j := by omega
  have hc := h.c
  refine ⟨fun k k0 k1 k2 k3 => ?_, fun k k0 k1 k2 k3 k4 => ?_, by omega⟩
  · rw [ix_swap, ix_swap]
    by_cases e1 : k = i
    · subst e1
      rw [if_pos rfl, if_neg (by omega), if_neg (by omega)]
      exact h.b j h0 hjn hp k0 k2
    · rw [if_neg e1]
      by_cases e2 : (k - 1) / 2 = i
      · rw [if_pos e2]
        by_cases e3 : k = j
        · rw [if_pos e3]; exact ho.asym _ _ hj
        · rw [if_neg e3]; exact hmin k k0 k1 e2
      · rw [if_neg (show ¬ k = j by omega), if_neg e2, if_neg k3]
        exact h.a k k0 k1 k2 e2
  · rw [ix_swap, ix_swap, hp, if_pos rfl, if_neg (by omega), if_neg (by omega)]
    have := h.a k k0 k1 (by omega) (by omega)
    rw [k2] at this
    exact this
theorem UInv.top {l : Array α} {n : Nat} (h : UInv lt l n 0) : HeapF lt l 0 n := fun k h0 h1 _ => h.a k h0 h1 (by omega)
theorem UInv.stop {l : Array α} {n j : Nat} (h : UInv lt l n j) (hj : lt (ix l j) (ix l ((j - 1) / 2)) = false) : HeapF lt l 0 n := fun k h0 h1 _ => by
  by_cases e : k = j
  · rw [e]; exact hj
  · exact h.a k h0 h1 e
theorem UInv.step {l : Array α} {n i j : Nat} (ho : Ord lt) (h : UInv lt l n j) (h0 : 0 < j) (hjn : j < n) (hp : (j - 1) / 2 = i) (hn : n ≤ l.size)
    (hj : lt (ix l j) (ix l i) = true) : UInv lt (l.swap i j (by omega) (by omega)) n i := by
  have hij : i < j := by omega
  refine ⟨fun k k0 k1 k2 => ?_, fun k k0 k1 k2 k3 => ?_⟩
  · rw [ix_swap, ix_swap, if_neg k2]
    by_cases e1 : k = j
    · subst e1
      rw [if_pos rfl, if_pos hp]
      exact ho.asym _ _ hj
    · rw [if_neg e1]
      by_cases e2 : (k - 1) / 2 = i
      · rw [if_pos e2]
        have := h.a k k0 k1 e1
        rw [e2] at this
        exact ho.trans _ _ _ (ho.asym _ _ hj) this
      · rw [if_neg e2]
        by_cases e3 : (k - 1) / 2 = j
        · rw [if_pos e3]
          have := h.b k k0 k1 e3 h0
          rw [hp] at this
          exact this
        · rw [if_neg e3]; exact h.a k k0 k1 e1
  · rw [ix_swap, ix_swap, if_neg (show ¬ k = i by omega), if_neg (show ¬ (i - 1) / 2 = i by omega), if_neg (show ¬ (i - 1) / 2 = j by omega)]
    have hi := h.a i k3 (by omega) (by omega)
    by_cases e1 : k = j
    · rw [if_pos e1]; exact hi
    · rw [if_neg e1]
      have := h.a k k0 k1 e1
      rw [k2] at this
      exact ho.trans _ _ _ hi this
/-- none is less than what is on top -/
theorem HeapF.least {l : Array α} {n : Nat} (ho : Ord lt) (h : HeapF lt l 0 n) : ∀ k, k < n → lt (ix l k) (ix l 0) = false := by
  intro k
  induction k using Nat.strongRecOn with
  | ind k ih =>
    intro hk
    by_cases e : k = 0
    · rw [e]; exact ho.refl _
    · exact ho.trans _ _ _ (ih ((k - 1) / 2) (by omega) (by omega)) (h k (by omega) hk (by omega))
theorem HeapF.dinv {l : Array α} {lo n : Nat} (h : HeapF lt l (lo + 1) n) : DInv lt l lo n lo := ⟨fun k a b c d => h k a b (by omega), fun k a b c d e => by omega, Nat.le_refl _⟩
theorem HeapF.big {l : Array α} {lo n : Nat} (hn : n ≤ 2 * lo + 1) : HeapF lt l lo n := fun k a b c => by omega
/-- the top and the last one changed places: all but the top holds -/
theorem HeapF.cutD {l : Array α} {n : Nat} (h : HeapF lt l 0 (n + 1)) (hn : n < l.size) : DInv lt (l.swap 0 n (by omega) hn) 0 n 0 := ⟨fun k a b c d => by
    rw [ix_swap, ix_swap, if_neg (by omega), if_neg (by omega), if_neg (by omega), if_neg (by omega)]
    exact h k a (by omega) c, fun k a b c d => by omega, Nat.le_refl _⟩
theorem HeapF.pushU {l : Array α} {n : Nat} (h : HeapF lt l 0 n) {x : α} (hn : n = l.size) : UInv lt (l.push x) (n + 1) n := ⟨fun k a b c => by
    have hk : k < l.size := by omega
    have e1 : ∀ m, m < l.size → ix (l.push x) m = ix l m := fun m hm => by unfold ix; rw [Array.getElem?_push, if_neg (by omega)]
    rw [e1 k hk, e1 _ (by omega)]
    exact h k a (by omega) (by omega), fun k a b c => by omega⟩
end
end Go.Proofs.Ytlboioplemlneaa.K
/- Dictionaries of what comes again, plainly: grams, weights, worth, pieces, and which are chosen. -/
set_option maxRecDepth 100000
set_option maxHeartbeats 1000000
set_option linter.unusedVariables false
set_option linter.unusedSimpArgs false
namespace Go.Proofs.Ytlboioplemlneaa.K
open Go
def winD (s : Bytes) (i n : Nat) : Bytes := (s.drop i).take n
theorem winD_len {s : Bytes} {i n : Nat} (h : i + n ≤ s.length) : (winD s i n).length = n := by simp [winD]; omega
/-- the grams of the first k places, each once -/
def gramsTo (s : Bytes) : Nat → List Bytes
  | 0 => []
  | k + 1 => if winD s k 6 ∈ gramsTo s k then gramsTo s k else gramsTo s k ++ [winD s k 6]
def gramsL (s : Bytes) : List Bytes := gramsTo s (s.length - 5)
theorem gramsTo_mem {s g : Bytes} : ∀ {k : Nat}, g ∈ gramsTo s k ↔ ∃ i, i < k ∧ winD s i 6 = g
  | 0 => by simp [gramsTo]
  | k + 1 => by
    simp only [gramsTo]
    split
    · rename_i h
      rw [gramsTo_mem]
      constructor
      · rintro ⟨i, hi, e⟩; exact ⟨i, by omega, e⟩
      · rintro ⟨i, hi, e⟩
        by_cases hik : i = k
        · subst hik
          rw [gramsTo_mem] at h
          rw [← e]; exact h
        · exact ⟨i, by omega, e⟩
    · rw [List.mem_append, gramsTo_mem, List.mem_singleton]
      constructor
      · rintro (⟨i, hi, e⟩ | rfl)
        · exact ⟨i, by omega, e⟩
        · exact ⟨k, by omega, rfl⟩
      · rintro ⟨i, hi, e⟩
        by_cases hik : i = k
        · subst hik; exact .inr e.symm
        · exact .inl ⟨i, by omega, e⟩
theorem gramsL_mem {s g : Bytes} : g ∈ gramsL s ↔ ∃ i, i + 6 ≤ s.length ∧ winD s i 6 = g := by
  unfold gramsL
  rw [gramsTo_mem]
  constructor
  · rintro ⟨i, hi, e⟩; exact ⟨i, by omega, e⟩
  · rintro ⟨i, hi, e⟩; exact ⟨i, by omega, e⟩
theorem gramsTo_len (s : Bytes) : ∀ k, (gramsTo s k).length ≤ k
  | 0 => by simp [gramsTo]
  | k + 1 => by
    have := gramsTo_len s k
    simp only [gramsTo]; split <;> simp <;> omega
theorem gramsL_len (s : Bytes) : (gramsL s).length ≤ s.length := by have := gramsTo_len s (s.length - 5); unfold gramsL; omega
theorem gramsTo_nodup (s : Bytes) : ∀ k, (gramsTo s k).Nodup
  | 0 => by simp [gramsTo]
  | k + 1 => by
    simp only [gramsTo]
    split
    · exact gramsTo_nodup s k
    · rename_i h
      rw [List.nodup_append]
      exact ⟨gramsTo_nodup s k, by simp, fun a ha b hb => by simp at hb; subst hb; exact fun e => h (e ▸ ha)⟩
def hasG (s g : Bytes) : Bool := decide (g ∈ gramsL s)
def cntG (recs : List Bytes) (g : Bytes) : Nat := (recs.filter fun r => hasG r g).length
def WG0 (recs : List Bytes) (g : Bytes) : Nat := cntG recs g - 1
def WG (recs taken : List Bytes) (g : Bytes) : Nat := if taken.any (fun t => hasG t g) then 0 else WG0 recs g
def worthS (W : Bytes → Nat) (s : Bytes) : Nat := ((gramsL s).map W).sum
def bestN (r : Bytes) : Nat := min 16 r.length
/-- the pieces of a record -/
def winsL (r : Bytes) : List Bytes := if r.length < 6 then [] else (List.range (r.length - bestN r + 1)).map fun i => winD r i (bestN r)
def pcs (recs : List Bytes) : List Bytes := recs.flatMap winsL
/-- the first one of those that are worth most -/
def pickF (W : Bytes → Nat) : List Bytes → Nat × Bytes → Nat × Bytes
  | [], b => b
  | p :: l, b => pickF W l (if b.1 < worthS W p then (worthS W p, p) else b)
theorem pickF_app (W : Bytes → Nat) : ∀ (a b : List Bytes) (c : Nat × Bytes), pickF W (a ++ b) c = pickF W b (pickF W a c)
  | [], b, c => rfl
  | x :: a, b, c => by simp only [List.cons_append, pickF, pickF_app W a b]
theorem pickF_ge (W : Bytes → Nat) : ∀ (l : List Bytes) (b : Nat × Bytes), b.1 ≤ (pickF W l b).1 ∧ ∀ q ∈ l, worthS W q ≤ (pickF W l b).1
  | [], b => ⟨Nat.le_refl _, fun q h => by simp at h⟩
  | p :: l, b => by
    obtain ⟨h1, h2⟩ := pickF_ge W l (if b.1 < worthS W p then (worthS W p, p) else b)
    simp only [pickF]
    refine ⟨Nat.le_trans (by split <;> (try simp only) <;> omega) h1, fun q hq => ?_⟩
    rcases List.mem_cons.1 hq with rfl | hq
    · exact Nat.le_trans (by split <;> (try simp only) <;> omega) h1
    · exact h2 q hq
/-- where the first of the most is -/
theorem pickF_at (W : Bytes → Nat) : ∀ (l : List Bytes) (b : Nat × Bytes) (i : Nat) (p : Bytes), l[i]? = some p → b.1 < worthS W p → (∀ q ∈ l, worthS W q ≤ worthS W p) → (∀ j q, j < i → l[j]? = some q → worthS W q < worthS W p) →
    pickF W l b = (worthS W p, p)
  | [], b, i, p, h, _, _, _ => by simp at h
  | x :: l, b, 0, p, h, hb, hm, _ => by
    simp at h; subst h
    simp only [pickF]
    rw [if_pos hb]
    have stay : ∀ (l : List Bytes) (c : Nat × Bytes), (∀ q ∈ l, worthS W q ≤ c.1) → pickF W l c = c := by
      intro l
      induction l with
      | nil => intro c _; rfl
      | cons y l ih =>
        intro c hc
        simp only [pickF]
        rw [if_neg (by have := hc y (by simp); omega)]
        exact ih c fun q hq => hc q (by simp [hq])
    exact stay l _ fun q hq => hm q (by simp [hq])
  | x :: l, b, i + 1, p, h, hb, hm, hf => by
    simp only [pickF]
    refine pickF_at W l _ i p (by simpa using h) ?_ (fun q hq => hm q (by simp [hq])) (fun j q hj hq => hf (j + 1) q (by omega) (by simpa using hq))
    have := hf 0 x (by omega) rfl
    split
    · exact this
    · exact hb
theorem pickF_mem (W : Bytes → Nat) : ∀ (l : List Bytes) (b : Nat × Bytes), pickF W l b = b ∨ ∃ p ∈ l, pickF W l b = (worthS W p, p)
  | [], b => .inl rfl
  | x :: l, b => by
    simp only [pickF]
    rcases pickF_mem W l (if b.1 < worthS W x then (worthS W x, x) else b) with h | ⟨p, hp, h⟩
    · rw [h]
      split
      · exact .inr ⟨x, by simp, rfl⟩
      · exact .inl rfl
    · exact .inr ⟨p, by simp [hp], h⟩
/-- what is chosen: of a size, behind those that are taken, all that are taken in the end -/
inductive Pk (recs : List Bytes) : Int → List Bytes → List Bytes → Prop
  | stop {size : Int} {taken : List Bytes} (h : (pickF (WG recs taken) (pcs recs) (0, [])).1 = 0 ∨ size < ((pickF (WG recs taken) (pcs recs) (0, [])).2.length : Int)) : Pk recs size taken taken
  | step {size : Int} {taken out : List Bytes} {w : Nat} {p : Bytes} (h : pickF (WG recs taken) (pcs recs) (0, []) = (w, p)) (hw : 0 < w) (hl : (p.length : Int) ≤ size) (hn : Pk recs (size - p.length) (taken ++ [p]) out) : Pk recs size taken out
theorem Pk.uniq {recs : List Bytes} {size : Int} {taken out out' : List Bytes} (h : Pk recs size taken out) (h' : Pk recs size taken out') : out = out' := by
  induction h generalizing out' with
  | stop hs =>
    cases h' with
    | stop => rfl
    | step h hw hl hn => rw [h] at hs; simp only at hs; omega
  | step h hw hl hn ih =>
    cases h' with
    | stop hs => rw [h] at hs; simp only at hs; omega
    | step h2 hw2 hl2 hn2 => rw [h] at h2; cases h2; exact ih hn2
theorem Pk.size {recs : List Bytes} {size : Int} {taken out : List Bytes} (h : Pk recs size taken out) : 0 ≤ size → (out.flatten.length : Int) ≤ taken.flatten.length + size := by
  induction h with
  | stop => intro h; omega
  | step h hw hl hn ih =>
    intro h0
    have := ih (by omega)
    simp only [List.flatten_append, List.length_append, List.flatten_cons, List.flatten_nil, List.append_nil] at this
    omega
theorem worthS_mono {W W' : Bytes → Nat} (h : ∀ g, W' g ≤ W g) (s : Bytes) : worthS W' s ≤ worthS W s := by
  unfold worthS
  induction gramsL s with
  | nil => simp
  | cons g l ih => simp only [List.map_cons, List.sum_cons]; have := h g; omega
theorem WG_mono (recs taken : List Bytes) (p g : Bytes) : WG recs (taken ++ [p]) g = if hasG p g then 0 else WG recs taken g := by
  unfold WG
  rw [List.any_append, List.any_cons, List.any_nil, Bool.or_false]
  cases h : hasG p g with
  | true => rw [Bool.or_true]; rfl
  | false => rw [Bool.or_false]; rfl
theorem worthS_taken (recs taken : List Bytes) (p : Bytes) : worthS (WG recs (taken ++ [p])) p = 0 := by
  unfold worthS
  have : ∀ g ∈ gramsL p, WG recs (taken ++ [p]) g = 0 := fun g hg => by rw [WG_mono, if_pos (by simpa [hasG] using hg)]
  have : (gramsL p).map (WG recs (taken ++ [p])) = (gramsL p).map (fun _ => 0) := List.map_congr_left this
  rw [this]
  induction gramsL p with
  | nil => rfl
  | cons a l ih => simp only [List.map_cons, List.sum_cons, ih]
/-- the sum of what all pieces are worth falls -/
def totalW (W : Bytes → Nat) (l : List Bytes) : Nat := (l.map (worthS W)).sum
theorem totalW_le {W W' : Bytes → Nat} (h : ∀ g, W' g ≤ W g) : ∀ l : List Bytes, totalW W' l ≤ totalW W l
  | [] => Nat.le_refl _
  | p :: l => by have := totalW_le h l; have := worthS_mono h p; unfold totalW at *; simp only [List.map_cons, List.sum_cons]; omega
theorem totalW_lt {W W' : Bytes → Nat} (h : ∀ g, W' g ≤ W g) {p : Bytes} (hp : worthS W' p < worthS W p) : ∀ {l : List Bytes}, p ∈ l → totalW W' l < totalW W l
  | [], h => by simp at h
  | q :: l, hm => by
    have h1 := totalW_le h l
    have h2 := worthS_mono h q
    rcases List.mem_cons.1 hm with rfl | hm
    · unfold totalW at *; simp only [List.map_cons, List.sum_cons]; omega
    · have := totalW_lt h hp hm
      unfold totalW at *; simp only [List.map_cons, List.sum_cons]; omega
theorem WG_le (recs taken : List Bytes) (p g : Bytes) : WG recs (taken ++ [p]) g ≤ WG recs taken g := by rw [WG_mono]; split <;> omega
end Go.Proofs.Ytlboioplemlneaa.K
/- Maps that are also deleted from, and in which an operation is done to each element: keys are unlike, stamps are unlike. -/
set_option maxRecDepth 100000
set_option linter.unusedVariables false
set_option linter.unusedSimpArgs false
set_option linter.unusedSectionVars false
namespace Go.Proofs.Ytlboioplemlneaa.K
open Go
theorem enc_bytes : KEnc (α := Bytes) (.s .str) (fun a => .string (ofL a)) := ⟨fun a b => by
  have := enc_str.eq (ofL a) (ofL b)
  rw [this]
  by_cases h : a = b
  · subst h; simp
  · have : ¬ ofL a = ofL b := fun e => h (ofL_inj e)
    simp [h, this], fun a => rfl⟩
section
variable {α : Type} [DecidableEq α] {kk : EqK} {enc : α → Value}
def KMB (kk : EqK) (enc : α → Value) (H : Heap) (b : Nat) (f : α → Option Value) : Prop :=
  ∃ es c ks, H.get b = .map es c ∧ Rows enc es ks ∧ f = look ks ∧ (ks.map (·.1)).Nodup ∧ (es.map (·.born)).Nodup ∧ ∀ e ∈ es, e.born < c
theorem KMB.km {H : Heap} {b : Nat} {f : α → Option Value} (h : KMB kk enc H b f) : KM kk enc H b f := by
  obtain ⟨es, c, ks, h1, h2, h3, _⟩ := h
  exact ⟨es, c, ks, h1, h2, h3⟩
theorem KMB.get {H H' : Heap} {b : Nat} {f : α → Option Value} (h : KMB kk enc H b f) (hg : H'.get b = H.get b) : KMB kk enc H' b f := by
  obtain ⟨es, c, ks, h1, h2⟩ := h
  exact ⟨es, c, ks, hg.trans h1, h2⟩
theorem KMB.empty {H : Heap} {b c : Nat} (h : H.get b = .map [] c) : KMB kk enc H b fun _ => none := ⟨[], c, [], h, rfl, by funext k; rfl, by simp, by simp, by simp⟩
theorem KMB.lt {H : Heap} {b : Nat} {f : α → Option Value} (h : KMB kk enc H b f) : b < H.next := by
  obtain ⟨es, c, ks, h1, _⟩ := h
  exact Heap.lt_of_live (by rw [h1]; rfl)
theorem look_none {ks : List (α × Value)} {a : α} (h : look ks a = none) : a ∉ ks.map (·.1) := by
  intro hm
  obtain ⟨p, hp, rfl⟩ := List.mem_map.1 hm
  unfold look at h
  simp only [Option.map_eq_none_iff, List.find?_eq_none] at h
  have := h p hp
  simp at this
theorem look_not {ks : List (α × Value)} {a : α} (h : a ∉ ks.map (·.1)) : look ks a = none := by
  unfold look
  simp only [Option.map_eq_none_iff, List.find?_eq_none]
  intro p hp
  simp only [decide_eq_true_eq]
  rintro rfl
  exact h (List.mem_map.2 ⟨p, hp, rfl⟩)
theorem map_set_same {β γ : Type} {g : β → γ} : ∀ {l : List β} {j : Nat} {x y : β}, l[j]? = some x → g y = g x → (l.set j y).map g = l.map g
  | [], j, x, y, h, _ => by simp at h
  | a :: l, 0, x, y, h, e => by simp at h; subst h; simp [e]
  | a :: l, j + 1, x, y, h, e => by simp at h; simp [map_set_same h e]
theorem KMB.mup (hk : KEnc kk enc) {H : Heap} {b : Nat} {f : α → Option Value} (h : KMB kk enc H b f) (a : α) (v : Value) :
    ∃ x, kMup H kk (.map (some b)) (enc a) v = some (H.put b x) ∧ ∀ H' : Heap, H'.get b = x → KMB kk enc H' b fun k => if k = a then some v else f k := by
  obtain ⟨es, c, ks, h1, h2, rfl, hn, hb, hc⟩ := h
  simp only [kMup, h1, hk.key, if_true]
  rcases find_rows2 hk h2 a 0 with ⟨h3, h4⟩ | ⟨j, en, w, h3, h4, h5, h6, h7, h8⟩
  · refine ⟨.map (es ++ [{ key := enc a, val := v, born := c }]) (c + 1), by simp [h4], fun H' hg => ⟨_, _, _, hg, rows_append h2 a v c, ?_, ?_, ?_, ?_⟩⟩
    · funext k; rw [look_append h3]
    · rw [List.map_append, List.nodup_append]
      exact ⟨hn, by simp, fun x hx y hy => by simp at hy; subst hy; exact fun e => look_none h3 (e ▸ hx)⟩
    · rw [List.map_append, List.nodup_append]
      refine ⟨hb, by simp, fun x hx y hy => ?_⟩
      obtain ⟨e, he, rfl⟩ := List.mem_map.1 hx
      have := hc e he
      simp at hy; omega
    · intro e he
      rcases List.mem_append.1 he with he | he
      · have := hc e he; omega
      · simp at he; subst he; simp
  · refine ⟨.map (es.set j { key := enc a, val := v, born := en.born }) c, by simp [h4], fun H' hg => ⟨_, _, _, hg, rows_set h2 j a v en.born, ?_, ?_, ?_, ?_⟩⟩
    · funext k; rw [look_set h3 h7 h8]
    · have : (ks.set j (a, v)).map (·.1) = ks.map (·.1) := map_set_same h7 rfl
      rw [this]; exact hn
    · have : (es.set j { key := enc a, val := v, born := en.born }).map (·.born) = es.map (·.born) := map_set_same h6 rfl
      rw [this]; exact hb
    · intro e he
      rcases List.mem_or_eq_of_mem_set he with he | rfl
      · exact hc e he
      · exact hc en (List.mem_of_getElem? h6)
theorem look_erase : ∀ {ks : List (α × Value)} {j : Nat} {a b : α} {w : Value}, (ks.map (·.1)).Nodup → ks[j]? = some (a, w) → look (ks.eraseIdx j) b = if b = a then none else look ks b
  | [], j, a, b, w, _, h => by simp at h
  | p :: ks, 0, a, b, w, hn, h => by
    simp at h; subst h
    simp only [List.map_cons, List.nodup_cons] at hn
    simp only [List.eraseIdx_cons_zero]
    by_cases e : b = a
    · rw [if_pos e, e]; exact look_not hn.1
    · rw [if_neg e]; simp [look, e]
  | p :: ks, j + 1, a, b, w, hn, h => by
    simp at h
    simp only [List.map_cons, List.nodup_cons] at hn
    have hpa : p.1 ≠ a := fun e => hn.1 (e ▸ List.mem_map.2 ⟨(a, w), List.mem_of_getElem? h, rfl⟩)
    have ih := look_erase (b := b) hn.2 h
    simp only [List.eraseIdx_cons_succ]
    by_cases e : b = p.1
    · subst e; rw [if_neg hpa]; simp [look]
    · have h1 : look (p :: ks.eraseIdx j) b = look (ks.eraseIdx j) b := by simp [look, e]
      have h2 : look (p :: ks) b = look ks b := by simp [look, e]
      rw [h1, h2, ih]
theorem map_erase {β γ : Type} (g : β → γ) : ∀ (l : List β) (j : Nat), (l.eraseIdx j).map g = (l.map g).eraseIdx j
  | [], j => by simp
  | a :: l, 0 => by simp
  | a :: l, j + 1 => by simp [map_erase g l j]
theorem KMB.del (hk : KEnc kk enc) {H : Heap} {b : Nat} {f : α → Option Value} (h : KMB kk enc H b f) (a : α) :
    ∃ x, kDel H kk (.map (some b)) (enc a) = some (H.put b x) ∧ ∀ H' : Heap, H'.get b = x → KMB kk enc H' b fun k => if k = a then none else f k := by
  obtain ⟨es, c, ks, h1, h2, rfl, hn, hb, hc⟩ := h
  simp only [kDel, h1, hk.key, if_true]
  rcases find_rows2 hk h2 a 0 with ⟨h3, h4⟩ | ⟨j, en, w, h3, h4, h5, h6, h7, h8⟩
  · refine ⟨.map es c, ?_, fun H' hg => ⟨es, c, ks, hg, h2, ?_, hn, hb, hc⟩⟩
    · simp only [h4, Option.map_some]
      congr 1
      have : ∀ (H : Heap) (n : Nat) (x : Blk), H.get n = x → H.put n x = H := by
        intro H
        induction H with
        | nil => intro n x h; cases n <;> rfl
        | cons z H ih =>
          intro n x h
          cases n with
          | zero => simp only [Heap.put, Heap.get] at *; rw [h]
          | succ n => simp only [Heap.put]; rw [ih n x h]
      exact (this _ _ _ h1).symm
    · funext k
      by_cases e : k = a
      · rw [if_pos e, e]; exact h3.symm
      · rw [if_neg e]
  · refine ⟨.map (es.eraseIdx j) c, by simp [h4], fun H' hg => ⟨es.eraseIdx j, c, ks.eraseIdx j, hg, ?_, ?_, ?_, ?_, ?_⟩⟩
    · simp only [Rows, map_erase] at *; rw [h2]
    · funext k; exact (look_erase hn h7).symm
    · rw [map_erase]; exact hn.sublist (List.eraseIdx_sublist _ _)
    · rw [map_erase]; exact hb.sublist (List.eraseIdx_sublist _ _)
    · intro e he; exact hc e (List.mem_of_mem_eraseIdx he)
/-- one less -/
def decV : Value → Value
  | .int k n => .int k (k.wrap (n - 1))
  | v => v
theorem decE_all : ∀ {es : List MapEntry}, (∀ e ∈ es, ∃ n, e.val = .int .i64 n) → decE .sub (.int .i64 1) es = some (es.map fun e => { e with val := decV e.val })
  | [], _ => rfl
  | e :: es, h => by
    obtain ⟨n, hn⟩ := h e (by simp)
    have ih := decE_all (es := es) fun x hx => h x (by simp [hx])
    have hk : kBin .sub (.int .i64 n) (.int .i64 1) = some (decV (.int .i64 n)) := by simp [kBin, kInt, decV]
    simp only [decE, hn, ih, hk, Option.bind_some, Option.map_some, List.map_cons]
theorem keysOk_all (hk : KEnc kk enc) {es : List MapEntry} {ks : List (α × Value)} (h : Rows enc es ks) (hn : (ks.map (·.1)).Nodup) : ∀ (l : List MapEntry) (i : Nat), es.drop i = l → keysOk kk es l i = true
  | [], i, _ => rfl
  | e :: l, i, hd => by
    have hi : es[i]? = some e := by have := congrArg (·[0]?) hd; simpa using this
    have hl : es.drop (i + 1) = l := by have := congrArg List.tail hd; simpa using this
    have hlen : es.length = ks.length := by have := congrArg List.length h; simpa using this
    obtain ⟨p, hp⟩ : ∃ p, ks[i]? = some p := ⟨_, List.getElem?_eq_getElem (by rw [← hlen]; exact (List.getElem?_eq_some_iff.1 hi).1)⟩
    have hke : e.key = enc p.1 := by
      have := congrArg (·[i]?) h
      simp only [List.getElem?_map, hi, hp, Option.map_some, Option.some.injEq, Prod.mk.injEq] at this
      exact this.1
    simp only [keysOk, hke, hk.key, Bool.true_and, Bool.and_eq_true]
    refine ⟨?_, keysOk_all hk h hn l (i + 1) hl⟩
    rcases find_rows2 hk h p.1 0 with ⟨h3, _⟩ | ⟨j, en, w, h3, h4, h5, h6, h7, h8⟩
    · exact absurd (List.mem_map.2 ⟨p, List.mem_of_getElem? hp, rfl⟩) (look_none h3)
    · rw [h4]
      simp only [Nat.zero_add, beq_iff_eq]
      have q1 : (ks.map (·.1))[i]? = some p.1 := by rw [List.getElem?_map, hp]; rfl
      have q2 : (ks.map (·.1))[j]? = some p.1 := by rw [List.getElem?_map, h7]; rfl
      have l1 := (List.getElem?_eq_some_iff.1 q1).1
      have l2 := (List.getElem?_eq_some_iff.1 q2).1
      rw [List.getElem?_eq_getElem l1] at q1
      rw [List.getElem?_eq_getElem l2] at q2
      simp only [Option.some.injEq] at q1 q2
      have hpw := List.pairwise_iff_getElem.1 hn
      rcases Nat.lt_trichotomy i j with hlt | heq | hgt
      · exact absurd (q1.trans q2.symm) (hpw i j l1 l2 hlt)
      · exact heq.symm
      · exact absurd (q2.trans q1.symm) (hpw j i l2 l1 hgt)
theorem look_map {g : Value → Value} : ∀ (ks : List (α × Value)) (a : α), look (ks.map fun p => (p.1, g p.2)) a = (look ks a).map g
  | [], a => rfl
  | p :: ks, a => by
    have ih := look_map (g := g) ks a
    by_cases e : a = p.1
    · subst e; simp [look]
    · simp only [List.map_cons]
      have h1 : ∀ (q : α × Value) (l : List (α × Value)), q.1 = p.1 → look (q :: l) a = look l a := fun q l hq => by simp [look, hq, e]
      have h2 := h1 p ks rfl
      rw [h2, ← ih]
      exact h1 (p.1, g p.2) _ rfl
theorem KMB.dec (hk : KEnc kk enc) {H : Heap} {b : Nat} {f : α → Option Value} (h : KMB kk enc H b f) (hi : ∀ a v, f a = some v → ∃ n, v = .int .i64 n) :
    ∃ x, kDec kk .sub (.int .i64 1) (.map (some b)) H = some (.map (some b), (H.push .dead).put b x) ∧ ∀ H' : Heap, H'.get b = x → KMB kk enc H' b fun k => (f k).map decV := by
  obtain ⟨es, c, ks, h1, h2, rfl, hn, hb, hc⟩ := h
  have hlen : es.length = ks.length := by have := congrArg List.length h2; simpa using this
  have hints : ∀ e ∈ es, ∃ n, e.val = .int .i64 n := fun e he => by
    obtain ⟨i, hi'⟩ := List.mem_iff_getElem?.1 he
    obtain ⟨p, hp⟩ : ∃ p, ks[i]? = some p := ⟨_, List.getElem?_eq_getElem (by rw [← hlen]; exact (List.getElem?_eq_some_iff.1 hi').1)⟩
    have hke : e.val = p.2 := by
      have := congrArg (·[i]?) h2
      simp only [List.getElem?_map, hi', hp, Option.map_some, Option.some.injEq, Prod.mk.injEq] at this
      exact this.2
    have hlk : look ks p.1 = some p.2 := by
      rcases find_rows2 hk h2 p.1 0 with ⟨h3, _⟩ | ⟨j, en, w, h3, h4, h5, h6, h7, h8⟩
      · exact absurd (List.mem_map.2 ⟨p, List.mem_of_getElem? hp, rfl⟩) (look_none h3)
      · have q1 : (ks.map (·.1))[i]? = some p.1 := by rw [List.getElem?_map, hp]; rfl
        have q2 : (ks.map (·.1))[j]? = some p.1 := by rw [List.getElem?_map, h7]; rfl
        have l1 := (List.getElem?_eq_some_iff.1 q1).1
        have l2 := (List.getElem?_eq_some_iff.1 q2).1
        rw [List.getElem?_eq_getElem l1] at q1
        rw [List.getElem?_eq_getElem l2] at q2
        simp only [Option.some.injEq] at q1 q2
        have hpw := List.pairwise_iff_getElem.1 hn
        have hij : i = j := by
          rcases Nat.lt_trichotomy i j with hlt | heq | hgt
          · exact absurd (q1.trans q2.symm) (hpw i j l1 l2 hlt)
          · exact heq
          · exact absurd (q2.trans q1.symm) (hpw j i l2 l1 hgt)
        subst hij
        rw [hp] at h7
        simp only [Option.some.injEq] at h7
        rw [h3, h7]
    rw [hke]; exact hi p.1 p.2 hlk
  refine ⟨.map (es.map fun e => { e with val := decV e.val }) c, ?_, fun H' hg => ⟨_, c, ks.map (fun p => (p.1, decV p.2)), hg, ?_, ?_, ?_, ?_, ?_⟩⟩
  · have hbo : bornOk es c = true := by
      simp only [bornOk, Bool.and_eq_true, decide_eq_true_eq, List.all_eq_true]
      exact ⟨hb, hc⟩
    simp only [kDec, h1, keysOk_all hk h2 hn es 0 rfl, hbo, Bool.and_self, if_true, decE_all hints, Option.map_some]
  · simp only [Rows, List.map_map] at *
    have : (fun e : MapEntry => (e.key, decV e.val)) = (fun p : Value × Value => (p.1, decV p.2)) ∘ fun e : MapEntry => (e.key, e.val) := rfl
    show es.map (fun e : MapEntry => (e.key, decV e.val)) = ks.map (fun p => (enc p.1, decV p.2))
    rw [this, ← List.map_map, h2, List.map_map]; rfl
  · funext k; exact (look_map ks k).symm
  · rw [List.map_map]; exact hn
  · rw [List.map_map]; exact hb
  · intro e he
    obtain ⟨x, hx, rfl⟩ := List.mem_map.1 he
    exact hc x hx
end
end Go.Proofs.Ytlboioplemlneaa.K
/- Codes of unlike lengths, in plain numbers: what is ahead of a symbol, and its code. -/
set_option linter.unusedVariables false
set_option linter.unusedSimpArgs false
namespace Go.Proofs.Ytlboioplemlneaa.K
def sumTo (f : Nat → Int) : Nat → Int
  | 0 => 0
  | n + 1 => sumTo f n + f n
theorem sumTo_congr {f g : Nat → Int} : ∀ n, (∀ k, k < n → f k = g k) → sumTo f n = sumTo g n
  | 0, _ => rfl
  | n + 1, h => by simp only [sumTo]; rw [sumTo_congr n fun k hk => h k (by omega), h n (by omega)]
theorem sumTo_le {f g : Nat → Int} : ∀ n, (∀ k, k < n → f k ≤ g k) → sumTo f n ≤ sumTo g n
  | 0, _ => by simp [sumTo]
  | n + 1, h => by
    simp only [sumTo]
    have := sumTo_le n fun k hk => h k (by omega)
    have := h n (by omega)
    omega
theorem sumTo_nonneg {f : Nat → Int} (n : Nat) (h : ∀ k, k < n → 0 ≤ f k) : 0 ≤ sumTo f n := by
  have := sumTo_le (f := fun _ => 0) (g := f) n h
  have hz : ∀ n, sumTo (fun _ => 0) n = 0 := by
    intro n
    induction n with
    | zero => rfl
    | succ n ih => simp [sumTo, ih]
  rw [hz] at this; exact this
theorem sumTo_add (f g : Nat → Int) : ∀ n, sumTo (fun k => f k + g k) n = sumTo f n + sumTo g n
  | 0 => by simp [sumTo]
  | n + 1 => by simp only [sumTo, sumTo_add f g n]; omega
theorem sumTo_mono {f : Nat → Int} {n m : Nat} (h : n ≤ m) (hf : ∀ k, k < m → 0 ≤ f k) : sumTo f n ≤ sumTo f m := by
  induction m with
  | zero => have : n = 0 := by omega
            subst this; exact Int.le_refl _
  | succ m ih =>
    by_cases hm : n = m + 1
    · subst hm; exact Int.le_refl _
    · have := ih (by omega) fun k hk => hf k (by omega)
      have := hf m (by omega)
      simp only [sumTo]; omega
/-- one place more in a sum -/
theorem sumTo_one {f g : Nat → Int} {i : Nat} {c : Int} : ∀ n, i < n → (∀ k, k < n → k ≠ i → f k ≤ g k) → f i + c ≤ g i → sumTo f n + c ≤ sumTo g n
  | 0, h, _, _ => by omega
  | n + 1, h, hf, hi => by
    simp only [sumTo]
    by_cases hn : i = n
    · subst hn
      have := sumTo_le (f := f) (g := g) i fun k hk => hf k (by omega) (by omega)
      omega
    · have := sumTo_one (f := f) (g := g) n (by omega) (fun k hk hne => hf k (by omega) hne) hi
      have := hf n (by omega) (by omega)
      omega
def p2 (n : Nat) : Int := 2 ^ n
theorem p2_pos (n : Nat) : 0 < p2 n := by unfold p2; exact Int.pow_pos (by omega)
theorem p2_succ (n : Nat) : p2 (n + 1) = 2 * p2 n := by unfold p2; rw [Int.pow_succ]; omega
theorem p2_add (a b : Nat) : p2 (a + b) = p2 a * p2 b := by unfold p2; exact Int.pow_add _ _ _
def at0 (l : List Int) (k : Nat) : Int := l.getD k 0
/-- of 2048 parts, those that a code of this length takes -/
def part (x : Int) : Int := p2 (11 - x).toNat
theorem part_pos (x : Int) : 0 < part x := p2_pos _
/-- the parts of all that is shorter, and of the first s that are as long -/
def before (l : List Int) (n : Int) (s : Nat) (k : Nat) : Int := if 0 < at0 l k ∧ (at0 l k < n ∨ at0 l k = n ∧ k < s) then part (at0 l k) else 0
theorem before_nonneg (l : List Int) (n : Int) (s k : Nat) : 0 ≤ before l n s k := by
  unfold before; split
  · exact Int.le_of_lt (part_pos _)
  · exact Int.le_refl _
def ahead (l : List Int) (n : Int) (s : Nat) : Int := sumTo (before l n s) l.length
def taken (l : List Int) (k : Nat) : Int := if 0 < at0 l k then part (at0 l k) else 0
def total (l : List Int) : Int := sumTo (taken l) l.length
theorem ahead_nonneg (l : List Int) (n : Int) (s : Nat) : 0 ≤ ahead l n s := sumTo_nonneg _ fun k _ => before_nonneg l n s k
theorem ahead_succ {l : List Int} {n : Int} {s : Nat} (h0 : 0 < n) (hs : s < l.length) : ahead l n (s + 1) = ahead l n s + if at0 l s = n then part n else 0 := by
  unfold ahead
  have key : ∀ m, sumTo (before l n (s + 1)) m = sumTo (before l n s) m + if s < m ∧ at0 l s = n then part n else 0 := by
    intro m
    induction m with
    | zero => simp [sumTo]
    | succ m ih =>
      simp only [sumTo, ih]
      have hb : before l n (s + 1) m = before l n s m + if m = s ∧ at0 l s = n then part n else 0 := by
        unfold before
        by_cases hm : m = s
        · subst hm
          by_cases hn : at0 l m = n
          · rw [hn]
            rw [if_pos (by omega), if_neg (by omega)]; simp
          · simp only [hn, and_false, if_false, Int.add_zero]
            congr 1
            simp [hn]
        · simp only [hm, false_and, if_false, Int.add_zero]
          congr 1
          have : (m < s + 1) = (m < s) := by apply propext; omega
          rw [this]
      rw [hb]
      by_cases hn : at0 l s = n
      · by_cases h1 : s < m
        · rw [if_pos ⟨h1, hn⟩, if_neg (by omega), if_pos ⟨by omega, hn⟩]; omega
        · by_cases h2 : m = s
          · rw [if_neg (by omega), if_pos ⟨h2, hn⟩, if_pos ⟨by omega, hn⟩]; omega
          · rw [if_neg (by omega), if_neg (by omega), if_neg (by omega)]; omega
      · simp [hn]
  rw [key]
  simp [hs]
theorem ahead_next {l : List Int} {n : Int} : ahead l (n + 1) 0 = ahead l n l.length := by
  unfold ahead
  refine sumTo_congr _ fun k hk => ?_
  unfold before
  congr 1
  apply propext
  constructor
  · rintro ⟨h1, h2⟩; exact ⟨h1, by omega⟩
  · rintro ⟨h1, h2⟩; exact ⟨h1, by omega⟩
theorem ahead_start (l : List Int) : ahead l 1 0 = 0 := by
  unfold ahead
  have : sumTo (before l 1 0) l.length = sumTo (fun _ => 0) l.length := sumTo_congr _ fun k _ => by
    unfold before; rw [if_neg (by omega)]
  rw [this]
  have hz : ∀ n, sumTo (fun _ => 0) n = 0 := by
    intro n
    induction n with
    | zero => rfl
    | succ n ih => simp [sumTo, ih]
  exact hz _
theorem ahead_total (l : List Int) (n : Int) (s : Nat) : ahead l n s ≤ total l := by
  refine sumTo_le _ fun k _ => ?_
  unfold before taken
  split
  · rename_i h; rw [if_pos h.1]; exact Int.le_refl _
  · split
    · exact Int.le_of_lt (part_pos _)
    · exact Int.le_refl _
/-- one that is ahead of another one takes its own part ahead of that -/
theorem ahead_lt {l : List Int} {i k : Nat} (hi : i < l.length) (hp : 0 < at0 l i) (h : at0 l i < at0 l k ∨ at0 l i = at0 l k ∧ i < k) : ahead l (at0 l i) i + part (at0 l i) ≤ ahead l (at0 l k) k := by
  refine sumTo_one _ hi (fun j _ hj => ?_) ?_
  · unfold before
    by_cases h1 : 0 < at0 l j ∧ (at0 l j < at0 l i ∨ at0 l j = at0 l i ∧ j < i)
    · rw [if_pos h1, if_pos ⟨h1.1, by omega⟩]; exact Int.le_refl _
    · rw [if_neg h1]
      split
      · exact Int.le_of_lt (part_pos _)
      · exact Int.le_refl _
  · unfold before
    rw [if_neg (by omega), if_pos ⟨hp, h⟩]; omega
theorem ahead_end {l : List Int} {i : Nat} (hi : i < l.length) (hp : 0 < at0 l i) : ahead l (at0 l i) i + part (at0 l i) ≤ total l := by
  refine sumTo_one _ hi (fun j _ hj => ?_) ?_
  · unfold before taken
    by_cases h1 : 0 < at0 l j ∧ (at0 l j < at0 l i ∨ at0 l j = at0 l i ∧ j < i)
    · rw [if_pos h1, if_pos h1.1]; exact Int.le_refl _
    · rw [if_neg h1]
      split
      · exact Int.le_of_lt (part_pos _)
      · exact Int.le_refl _
  · unfold before taken
    rw [if_neg (by omega), if_pos hp]; omega
/-- the code that is next, as the program reckons it -/
def codeAt (l : List Int) : Nat → Nat → Int
  | 0, _ => 0
  | n + 1, 0 => 2 * codeAt l n l.length
  | n + 1, s + 1 => codeAt l (n + 1) s + if at0 l s = n + 1 then 1 else 0
theorem codeAt_ahead {l : List Int} : ∀ (n : Nat), 1 ≤ n → n ≤ 11 → ∀ s, s ≤ l.length → codeAt l n s * part n = ahead l n s := by
  intro n
  induction n with
  | zero => intro h; omega
  | succ n ih =>
    intro _ hn s
    induction s with
    | zero =>
      intro _
      by_cases h0 : n = 0
      · subst h0
        have := ahead_start l
        simp only [codeAt]
        simpa using this.symm
      · have := ih (by omega) (by omega) l.length (Nat.le_refl _)
        simp only [codeAt]
        have e1 : ((n + 1 : Nat) : Int) = (n : Int) + 1 := by omega
        rw [e1, ahead_next, ← this]
        have e2 : part (n : Int) = 2 * part ((n : Int) + 1) := by
          unfold part
          rw [show (11 - (n : Int)).toNat = (11 - ((n : Int) + 1)).toNat + 1 by omega, p2_succ]
        rw [e2, Int.mul_comm 2 (codeAt l n l.length), Int.mul_assoc]
    | succ s ihs =>
      intro hs
      have h1 := ihs (by omega)
      have h2 := ahead_succ (l := l) (n := ((n + 1 : Nat) : Int)) (s := s) (by omega) (by omega)
      rw [h2, ← h1]
      simp only [codeAt]
      rw [Int.add_mul]
      congr 1
      have e1 : ((n + 1 : Nat) : Int) = (n : Int) + 1 := by omega
      rw [e1]
      split <;> simp
/-- the code of a symbol -/
def codeOf (l : List Int) (i : Nat) : Int := if 0 < at0 l i then codeAt l (at0 l i).toNat i else 0
theorem codeOf_div {l : List Int} {i : Nat} (hi : i < l.length) (h0 : 0 < at0 l i) (h1 : at0 l i ≤ 11) : codeOf l i = ahead l (at0 l i) i / part (at0 l i) ∧ codeOf l i * part (at0 l i) = ahead l (at0 l i) i := by
  have h := codeAt_ahead (l := l) (at0 l i).toNat (by omega) (by omega) i (by omega)
  have e : (((at0 l i).toNat : Nat) : Int) = at0 l i := by omega
  rw [e] at h
  unfold codeOf
  rw [if_pos h0]
  refine ⟨?_, h⟩
  rw [← h, Int.mul_ediv_cancel _ (by have := part_pos (at0 l i); omega)]
theorem p2_mono {a b : Nat} (h : a ≤ b) : p2 a ≤ p2 b := by
  obtain ⟨c, rfl⟩ := Nat.exists_eq_add_of_le h
  rw [p2_add]
  have h1 := p2_pos a
  have h2 := p2_pos c
  have : p2 a * 1 ≤ p2 a * p2 c := Int.mul_le_mul_of_nonneg_left (by omega) (by omega)
  omega
theorem part_le {x : Int} (h : 1 ≤ x) : part x ≤ 1024 := by
  have := p2_mono (a := (11 - x).toNat) (b := 10) (by omega)
  have e : p2 10 = 1024 := by decide
  unfold part; omega
theorem part_one {x : Int} (h1 : 1 ≤ x) (h2 : x ≤ 11) : part x = 1024 ↔ x = 1 := by
  constructor
  · intro h
    rcases Int.lt_or_le 1 x with h3 | h3
    · have := p2_mono (a := (11 - x).toNat) (b := 9) (by omega)
      have e : p2 9 = 512 := by decide
      unfold part at h; omega
    · omega
  · rintro rfl; decide
def cntP (l : List Int) : Nat → Int
  | 0 => 0
  | i + 1 => cntP l i + if 0 < at0 l i then 1 else 0
def oneAt (l : List Int) : Nat → Bool
  | 0 => false
  | i + 1 => if 0 < at0 l i then decide (at0 l i = 1) else oneAt l i
theorem cntP_bd (l : List Int) : ∀ i, 0 ≤ cntP l i ∧ cntP l i ≤ i
  | 0 => by simp [cntP]
  | i + 1 => by have := cntP_bd l i; simp only [cntP]; split <;> omega
theorem tot_bd {l : List Int} (i : Nat) (h : ∀ k, k < i → at0 l k ≤ 11) : 0 ≤ sumTo (taken l) i ∧ sumTo (taken l) i ≤ 1024 * i := by
  induction i with
  | zero => simp [sumTo]
  | succ i ih =>
    have h1 := ih fun k hk => h k (by omega)
    have h2 : 0 ≤ taken l i ∧ taken l i ≤ 1024 := by
      unfold taken
      split
      · exact ⟨Int.le_of_lt (part_pos _), part_le (by omega)⟩
      · omega
    simp only [sumTo]; omega
theorem one_tot {l : List Int} : ∀ i, (∀ k, k < i → at0 l k ≤ 11) → (cntP l i = 0 → sumTo (taken l) i = 0) ∧ (cntP l i = 1 → ∃ x, 1 ≤ x ∧ x ≤ 11 ∧ sumTo (taken l) i = part x ∧ oneAt l i = decide (x = 1))
  | 0, _ => ⟨fun _ => rfl, fun h => by simp [cntP] at h⟩
  | i + 1, h => by
    obtain ⟨h1, h2⟩ := one_tot i fun k hk => h k (by omega)
    have hb := cntP_bd l i
    simp only [cntP, sumTo, oneAt, taken]
    by_cases hp : 0 < at0 l i
    · simp only [hp, if_true]
      refine ⟨fun h3 => by omega, fun h3 => ⟨at0 l i, by omega, h i (by omega), ?_, rfl⟩⟩
      rw [h1 (by omega)]; omega
    · simp only [hp, if_false, Int.add_zero]
      exact ⟨h1, h2⟩
def rightB (l : List Int) : Bool := l.all (fun x => decide (0 ≤ x) && decide (x ≤ 11)) && decide (l.length ≤ 256)
def wholeB (l : List Int) : Bool := rightB l && (decide (total l = 2048) || (decide (cntP l l.length = 1) && decide (total l = 1024)))
theorem right_at {l : List Int} (h : l.all (fun x => decide (0 ≤ x) && decide (x ≤ 11)) = true) (k : Nat) : 0 ≤ at0 l k ∧ at0 l k ≤ 11 := by
  unfold at0
  rw [List.getD_eq_getElem?_getD]
  cases hx : l[k]? with
  | none => simp
  | some x =>
    rw [List.all_eq_true] at h
    have := h x (List.mem_of_getElem? hx)
    simpa using this
theorem whole_prog {l : List Int} (h : rightB l = true) : (decide (2048 - total l = 0) || (decide (cntP l l.length = 1) && oneAt l l.length)) = (decide (total l = 2048) || (decide (cntP l l.length = 1) && decide (total l = 1024))) := by
  simp only [rightB, Bool.and_eq_true] at h
  have h1 := right_at h.1
  have h2 : decide (2048 - total l = 0) = decide (total l = 2048) := by
    congr 1; apply propext; omega
  rw [h2]
  congr 1
  by_cases hc : cntP l l.length = 1
  · obtain ⟨x, a, b, c, d⟩ := (one_tot l.length fun k _ => (h1 k).2).2 hc
    have e : (total l = 1024) = (x = 1) := by
      apply propext
      rw [total, c]; exact part_one a b
    simp only [d, e]
  · simp [hc]
end Go.Proofs.Ytlboioplemlneaa.K
/- Codes of unlike lengths: whether lengths may be, and whether they are whole, by the program and by the document. -/
set_option maxRecDepth 100000
set_option maxHeartbeats 2000000
set_option linter.unusedVariables false
set_option linter.unusedSimpArgs false
namespace Go.Proofs.Ytlboioplemlneaa.K
open Go Go.Proofs
def S : Sys := ⟨F, M, R⟩
theorem S_ok : SysOK Go.Proofs.Try.prog S := ⟨M_ok, by kernel_rfl, F_ok, R_ok⟩
/-- whole numbers that may be read -/
def Iv (H : Heap) (a : Option Addr) (l : List Int) : Prop := 0 < l.length → ∃ b o cs rw, a = some ⟨b, o, none⟩ ∧ H.get b = .cells cs 3 rw ∧ ∀ (i : Nat) x, l[i]? = some x → cs[o + i]? = some (.int .i64 x)
theorem Iv.kp {H H' : Heap} {a : Option Addr} {l : List Int} (h : Iv H a l) (hk : Kp H.next H H') : Iv H' a l := fun hp => by
  obtain ⟨b, o, cs, rw, h1, h2, h3⟩ := h hp
  exact ⟨b, o, cs, rw, h1, (hk.2 b (lt_cells h2)).trans h2, h3⟩
def okL (x : Int) : Bool := decide (0 ≤ x) && decide (x ≤ 11)
def AllOk (l : List Int) : Prop := l.all okL = true
theorem all_succ {p : Int → Bool} {l : List Int} {i : Nat} {x : Int} (h : l[i]? = some x) : (l.take (i + 1)).all p = ((l.take i).all p && p x) := by
  rw [List.take_add_one, h]; simp
theorem all_no {p : Int → Bool} {l : List Int} {i : Nat} {x : Int} (h : l[i]? = some x) (hp : p x = false) : l.all p = false := by
  rw [List.all_eq_false]
  exact ⟨x, List.mem_of_getElem? h, by simp [hp]⟩
theorem rightB_no {l : List Int} {i : Nat} {x : Int} (h : l[i]? = some x) (hp : okL x = false) : rightB l = false := by
  have : l.all (fun x => decide (0 ≤ x) && decide (x ≤ 11)) = false := all_no h hp
  simp only [rightB, this, Bool.false_and]
section
variable {H : Heap} {a : Option Addr} {c : Nat} {l : List Int}
theorem right_t (hl : Iv H a l) (hm : (l.length : Int) ≤ 9223372036854775807) : Wf S 92 [.slice a l.length c] H fun v H' => H' = H ∧ v = .bool (rightB l) := by
  refine w92 rfl rfl _ ?_
  simp [s92]
  refine l92_0 S (fun d e H' => ∃ i : Nat, i ≤ l.length ∧ d = l.length - i ∧ H' = H ∧ e 0 = .slice a l.length c ∧ e 5 = .slice a l.length c ∧ e 6 = .int .i64 l.length ∧ e 7 = .int .i64 i ∧ AllOk (l.take i)) l.length ⟨0, by omega, by omega, rfl, by simp, by simp, by simp, by simp, rfl⟩ ?_
  rintro d e H' ⟨i, hi, rfl, rfl, e0, e5, e6, e7, hok⟩
  by_cases h3 : i < l.length
  · obtain ⟨b, o, cs, rw, rfl, hg, hc⟩ := hl (by omega)
    obtain ⟨x, hx⟩ : ∃ x, l[i]? = some x := ⟨_, List.getElem?_eq_getElem h3⟩
    have hcx := hc i x hx
    have hw : IntKind.i64.wrap ((i : Int) + 1) = (i : Int) + 1 := wi (by omega) (by omega)
    by_cases g1 : x < 0
    · simp [s92_0, e5, e6, e7, h3, addOff, hg, hcx, g1]
      exact rightB_no hx (by simp [okL]; omega)
    by_cases g2 : 11 < x
    · simp [s92_0, e5, e6, e7, h3, addOff, hg, hcx, g1, g2]
      exact rightB_no hx (by simp [okL]; omega)
    · simp [s92_0, e5, e6, e7, h3, addOff, hg, hcx, g1, g2, hw]
      refine ⟨l.length - (i + 1), by omega, i + 1, by omega, rfl, e0, by simp, ?_⟩
      unfold AllOk at *
      rw [all_succ hx, hok]; simp [okL]; omega
  · have h5 : i = l.length := by omega
    subst h5
    have hok' : l.all (fun x => decide (0 ≤ x) && decide (x ≤ 11)) = true := by unfold AllOk at hok; rw [List.take_length] at hok; exact hok
    simp [s92_0, e0, e6, e7]
    simp only [rightB, hok', Bool.true_and]
    congr 1; apply propext; omega
theorem rright_t (hl : Iv H a l) (hm : (l.length : Int) ≤ 9223372036854775807) : Wf S 59 [.slice a l.length c] H fun v H' => H' = H ∧ v = .bool (rightB l) := by
  refine w59 rfl rfl _ ?_
  simp [s59]
  refine l59_0 S (fun d e H' => ∃ i : Nat, i ≤ l.length ∧ d = l.length - i ∧ H' = H ∧ e 0 = .slice a l.length c ∧ e 3 = .int .i64 i ∧ AllOk (l.take i)) l.length ⟨0, by omega, by omega, rfl, by simp, by simp, rfl⟩ ?_
  rintro d e H' ⟨i, hi, rfl, rfl, e0, e3, hok⟩
  by_cases h3 : i < l.length
  · obtain ⟨b, o, cs, rw, rfl, hg, hc⟩ := hl (by omega)
    obtain ⟨x, hx⟩ : ∃ x, l[i]? = some x := ⟨_, List.getElem?_eq_getElem h3⟩
    have hcx := hc i x hx
    have hw : IntKind.i64.wrap ((i : Int) + 1) = (i : Int) + 1 := wi (by omega) (by omega)
    by_cases g1 : x < 0
    · simp [s59_0, e0, e3, h3, addOff, hg, hcx, g1]
      exact rightB_no hx (by simp [okL]; omega)
    by_cases g2 : 11 < x
    · simp [s59_0, e0, e3, h3, addOff, hg, hcx, g1, g2]
      exact rightB_no hx (by simp [okL]; omega)
    · simp [s59_0, e0, e3, h3, addOff, hg, hcx, g1, g2, hw]
      refine ⟨l.length - (i + 1), by omega, i + 1, by omega, rfl, by simp, ?_⟩
      unfold AllOk at *
      rw [all_succ hx, hok]; simp [okL]; omega
  · have h5 : i = l.length := by omega
    subst h5
    have hok' : l.all (fun x => decide (0 ≤ x) && decide (x ≤ 11)) = true := by unfold AllOk at hok; rw [List.take_length] at hok; exact hok
    simp [s59_0, e0, e3]
    simp only [rightB, hok', Bool.true_and]
    congr 1; apply propext; omega
theorem Size_t (H : Heap) (n : Nat) (h1 : n ≤ 30) : Wf S 60 [.int .i64 n] H fun v H' => H' = H ∧ v = .int .i64 (p2 n) := by
  refine w60 rfl rfl _ ?_
  simp [s60]
  refine l60_0 S (fun d e H' => ∃ i : Nat, i ≤ n ∧ d = n - i ∧ H' = H ∧ e 0 = .int .i64 n ∧ e 3 = .int .i64 (p2 i) ∧ e 4 = .int .i64 i) n ⟨0, by omega, by omega, rfl, by simp, by simp [p2], by simp⟩ ?_
  rintro d e H' ⟨i, hi, rfl, rfl, e0, e3, e4⟩
  by_cases h3 : i < n
  · have hw : IntKind.i64.wrap ((i : Int) + 1) = (i : Int) + 1 := wi (by omega) (by omega)
    have hb : p2 i ≤ p2 30 := p2_mono (by omega)
    have hp := p2_pos i
    have e30 : p2 30 = 1073741824 := by decide
    have hw2 : IntKind.i64.wrap (p2 i * 2) = p2 i * 2 := wi (by omega) (by omega)
    simp [s60_0, e0, e3, e4, h3, hw, hw2]
    exact ⟨n - (i + 1), by omega, i + 1, by omega, rfl, by rw [p2_succ]; omega, by omega⟩
  · have h5 : i = n := by omega
    subst h5
    simp [s60_0, e0, e3, e4]
theorem kb_shl {k k' : IntKind} {a b : Int} : kBin .shl (.int k a) (.int k' b) = if b < 0 then none else some (.int k (k.wrap (a * 2 ^ (min b.toNat k.bits)))) := rfl
theorem kb_shr {k k' : IntKind} {a b : Int} : kBin .shr (.int k a) (.int k' b) = if b < 0 then none else some (.int k (a.fdiv (2 ^ (min b.toNat k.bits)))) := rfl
theorem right_len {l : List Int} (h : rightB l = true) : l.length ≤ 256 := by
  simp only [rightB, Bool.and_eq_true, decide_eq_true_eq] at h; exact h.2
theorem right_all {l : List Int} (h : rightB l = true) (k : Nat) : 0 ≤ at0 l k ∧ at0 l k ≤ 11 := by
  simp only [rightB, Bool.and_eq_true] at h; exact right_at h.1 k
theorem at0_of {l : List Int} {i : Nat} {x : Int} (h : l[i]? = some x) : at0 l i = x := by
  unfold at0; rw [List.getD_eq_getElem?_getD, h]; rfl
theorem shl_part {x : Int} (h0 : 0 ≤ x) (h1 : x ≤ 11) : IntKind.i64.wrap (1 * 2 ^ (min (11 - x).toNat IntKind.i64.bits)) = part x := by
  have e : min (11 - x).toNat IntKind.i64.bits = (11 - x).toNat := by
    have : IntKind.i64.bits = 64 := rfl
    omega
  rw [e, Int.one_mul]
  have h2 : p2 (11 - x).toNat ≤ p2 11 := p2_mono (by omega)
  have h3 : p2 11 = 2048 := by decide
  have h4 := p2_pos (11 - x).toNat
  have : (2 : Int) ^ (11 - x).toNat = p2 (11 - x).toNat := rfl
  rw [this, wi (by omega) (by omega)]; rfl
end
end Go.Proofs.Ytlboioplemlneaa.K
