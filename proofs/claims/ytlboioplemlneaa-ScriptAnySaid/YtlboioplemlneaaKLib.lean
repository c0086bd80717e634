/- Words in common of all walks: what is kept of a heap, rows of equal parts, what is gathered by append. -/
import Derived.Test.YtlboioplemlneaaKSimp
import Derived.Test.YtlboioplemlneaaKArg
set_option linter.unusedVariables false
set_option linter.unusedSimpArgs false
set_option linter.unusedSectionVars false
namespace Go.Proofs.Ytlboioplemlneaa.K
open Go
theorem wi {x : Int} (h1 : -9223372036854775808 ≤ x) (h2 : x ≤ 9223372036854775807) : IntKind.i64.wrap x = x := by
  rw [IntKind.wrap_i64]; omega
section
variable {H : Heap}
theorem get_put_eq {n : Nat} {b : Blk} (h : n < H.next) : (H.put n b).get n = b := by rw [Heap.get_put, if_pos ⟨rfl, h⟩]
theorem get_put_ne {n m : Nat} {b : Blk} (h : m ≠ n) : (H.put n b).get m = H.get m := by rw [Heap.get_put, if_neg (fun e => h e.1)]
@[simp] theorem put_last {x y : Blk} : (H.push x).put H.next y = H.push y := by
  unfold Heap.push Heap.next
  induction H with
  | nil => rfl
  | cons z H ih => simp [Heap.put, ih]
theorem put_put {n : Nat} {x y : Blk} : (H.put n x).put n y = H.put n y := by
  induction H generalizing n with
  | nil => cases n <;> rfl
  | cons z H ih => cases n with
    | zero => rfl
    | succ n => simp only [Heap.put, ih]
theorem put_same {n : Nat} {x : Blk} (h : H.get n = x) : H.put n x = H := by
  induction H generalizing n with
  | nil => cases n <;> rfl
  | cons z H ih => cases n with
    | zero => simp only [Heap.put, Heap.get] at *; rw [h]
    | succ n => simp only [Heap.put]; rw [ih h]
theorem get_old {n : Nat} {b : Blk} (h : n < H.next) : (H.push b).get n = H.get n := by rw [Heap.get_push, if_neg (by omega)]
theorem get_last {b : Blk} : (H.push b).get H.next = b := by rw [Heap.get_push, if_pos rfl]
theorem lt_cells {b : Nat} {c : List Value} {t : TypeId} {rw : Bool} (h : H.get b = .cells c t rw) : b < H.next := Heap.lt_of_live (by rw [h]; rfl)
theorem lt_map {b : Nat} {es : List MapEntry} {c : Nat} (h : H.get b = .map es c) : b < H.next := Heap.lt_of_live (by rw [h]; rfl)

/-- blocks below N stand as they stood -/
def Kp (N : Nat) (H H' : Heap) : Prop := H.next ≤ H'.next ∧ ∀ k, k < N → H'.get k = H.get k
theorem Kp.refl (N : Nat) (H : Heap) : Kp N H H := ⟨Nat.le_refl _, fun _ _ => rfl⟩
theorem Kp.trans {N : Nat} {A B C : Heap} (h : Kp N A B) (h' : Kp N B C) : Kp N A C := ⟨Nat.le_trans h.1 h'.1, fun k hk => (h'.2 k hk).trans (h.2 k hk)⟩
theorem Kp.mono {N M : Nat} {A B : Heap} (h : Kp N A B) (hm : M ≤ N) : Kp M A B := ⟨h.1, fun k hk => h.2 k (Nat.lt_of_lt_of_le hk hm)⟩
theorem Kp.push {N : Nat} {b : Blk} (h : N ≤ H.next) : Kp N H (H.push b) := ⟨by simp, fun k hk => get_old (Nat.lt_of_lt_of_le hk h)⟩
theorem Kp.put {N n : Nat} {b : Blk} (h : N ≤ n) : Kp N H (H.put n b) := ⟨by rw [next_put]; exact Nat.le_refl _, fun k hk => get_put_ne (by omega)⟩
theorem Kp.get {N : Nat} {A B : Heap} (h : Kp N A B) {k : Nat} (hk : k < N) : B.get k = A.get k := h.2 k hk

end
section
variable {α : Type} {f : α → List Value} {z : Nat}
theorem rows_len (hz : ∀ a, (f a).length = z) : ∀ l : List α, (l.flatMap f).length = l.length * z
  | [] => by simp
  | a :: l => by simp only [List.flatMap_cons, List.length_append, hz, rows_len hz l, List.length_cons, Nat.succ_mul]; omega
theorem rows_get (hz : ∀ a, (f a).length = z) {a : α} : ∀ {l : List α} {i j : Nat}, l[i]? = some a → j < z → (l.flatMap f)[i * z + j]? = (f a)[j]?
  | [], i, j, h, _ => by simp at h
  | b :: l, 0, j, h, hj => by
    simp at h; subst h
    simp only [List.flatMap_cons, Nat.zero_mul, Nat.zero_add]
    rw [List.getElem?_append_left (by rw [hz]; exact hj)]
  | b :: l, i + 1, j, h, hj => by
    simp only [List.flatMap_cons]
    rw [List.getElem?_append_right (by rw [hz, Nat.succ_mul]; omega), hz]
    have := rows_get hz (l := l) (i := i) (j := j) (by simpa using h) hj
    rw [← this]; congr 1; rw [Nat.succ_mul]; omega
theorem rows_rd (hz : ∀ a, (f a).length = z) {a : α} {l : List α} {i : Nat} (h : l[i]? = some a) : rd (l.flatMap f) (i * z) z = some (f a) := by
  have hi := (List.getElem?_eq_some_iff.1 h).1
  have hl := rows_len hz l
  have hle : i * z + z ≤ l.length * z := by rw [← Nat.succ_mul]; exact Nat.mul_le_mul_right _ hi
  unfold rd
  rw [if_pos (by rw [hl]; exact hle)]
  congr 1
  apply List.ext_getElem?
  intro j
  rw [List.getElem?_take]
  split
  · rename_i hj
    rw [List.getElem?_drop, rows_get hz h hj]
  · rename_i hj
    rw [List.getElem?_eq_none (by rw [hz]; omega)]
theorem sks_rows {ks : List SK} (hp : 0 < ks.length) {good : α → Prop} (hd : ∀ vs, SKL ks vs → ∃ a, vs = f a ∧ good a) : ∀ (n : Nat) (cs : List Value), SKs ks n cs → ∃ l : List α, l.length = n ∧ cs = l.flatMap f ∧ ∀ a ∈ l, good a
  | 0, cs, h => ⟨[], rfl, by have := h.1; simp at this; simp [this], by simp⟩
  | n + 1, cs, h => by
    have h0 := h.2 0 (by omega)
    simp only [Nat.zero_mul, List.drop_zero] at h0
    obtain ⟨a, ha, hg⟩ := hd _ h0
    have h1 : SKs ks n (cs.drop ks.length) := by
      refine ⟨by rw [List.length_drop, h.1, Nat.succ_mul]; omega, fun i hi => ?_⟩
      rw [List.drop_drop]
      have := h.2 (i + 1) (by omega)
      rw [Nat.succ_mul, Nat.add_comm] at this
      exact this
    obtain ⟨l, e1, e2, e3⟩ := sks_rows hp hd n _ h1
    refine ⟨a :: l, by simp [e1], ?_, ?_⟩
    · rw [List.flatMap_cons, ← e2, ← ha, List.take_append_drop]
    · intro b hb
      rcases List.mem_cons.1 hb with rfl | hb
      · exact hg
      · exact e3 b hb
end
/-- what was gathered by append, in a block of its own from N on, ahead of M: n parts of z cells -/
def Acc (t z N M : Nat) (H : Heap) (v : Value) (n : Nat) (cs : List Value) : Prop :=
  (n = 0 ∧ cs = [] ∧ v = .slice none 0 0) ∨ ∃ b c, N ≤ b ∧ b < M ∧ v = .slice (some ⟨b, 0, none⟩) n c ∧ (c = capx ∨ c = n) ∧ H.get b = .cells cs t true ∧ cs.length = n * z
theorem Acc.nil {t z N M : Nat} {H : Heap} : Acc t z N M H (.slice none 0 0) 0 [] := .inl ⟨rfl, rfl, rfl⟩
theorem Acc.kp {t z N M n : Nat} {H H' : Heap} {v : Value} {cs : List Value} (h : Acc t z N M H v n cs) (hk : ∀ b, N ≤ b → b < M → H'.get b = H.get b) : Acc t z N M H' v n cs := by
  rcases h with h | ⟨b, c, h1, h2, h3, h4, h5, h6⟩
  · exact .inl h
  · exact .inr ⟨b, c, h1, h2, h3, h4, (hk b h1 h2).trans h5, h6⟩
theorem Acc.mono {t z N M M' n : Nat} {H : Heap} {v : Value} {cs : List Value} (h : Acc t z N M H v n cs) (hM : M ≤ M') : Acc t z N M' H v n cs := by
  rcases h with h | ⟨b, c, h1, h2, h3, h4, h5, h6⟩
  · exact .inl h
  · exact .inr ⟨b, c, h1, by omega, h3, h4, h5, h6⟩
theorem Acc.len {t z N M n : Nat} {H : Heap} {v : Value} {cs : List Value} (h : Acc t z N M H v n cs) : ∃ a c, v = .slice a n c ∧ (0 < n → ∃ b, a = some ⟨b, 0, none⟩ ∧ H.get b = .cells cs t true) := by
  rcases h with ⟨rfl, rfl, rfl⟩ | ⟨b, c, h1, h2, h3, h4, h5, h6⟩
  · exact ⟨none, 0, rfl, fun h => absurd h (by omega)⟩
  · exact ⟨_, _, h3, fun _ => ⟨b, rfl, h5⟩⟩
theorem Acc.row {t z N M n : Nat} {H : Heap} {v : Value} {cs : List Value} (h : Acc t z N M H v n cs) : ∃ a c, v = .slice a n c ∧ kRow H t z n a = some cs := by
  rcases h with ⟨rfl, rfl, rfl⟩ | ⟨b, c, h1, h2, h3, h4, h5, h6⟩
  · exact ⟨none, 0, rfl, rfl⟩
  · refine ⟨_, _, h3, ?_⟩
    simp only [kRow, h5, if_true]
    unfold rd; rw [if_pos (by omega), List.drop_zero, List.take_of_length_le (by omega)]
theorem Acc.one {t z N : Nat} {H : Heap} {cs : List Value} (hN : N ≤ H.next) (hz : cs.length = z) : Acc t z N (H.next + 1) (H.push (.cells cs t true)) (.slice (some ⟨H.next, 0, none⟩) 1 1) 1 cs :=
  .inr ⟨H.next, 1, hN, by omega, rfl, .inr rfl, get_last, by omega⟩
/-- one part more, by append -/
theorem Acc.app {t z N M n bytes : Nat} {H : Heap} {v : Value} {cs new : List Value} (h : Acc t z N M H v n cs) (hN : N ≤ H.next) (hM : M ≤ H.next) (hz : new.length = z) (hn : (n + 1) * bytes ≤ roomMax ∧ n + 1 ≤ roomMax) :
    ∃ v' H', kApp (H.push (.cells new t true)) t z bytes v 1 new = some (v', H') ∧ Acc t z N H'.next H' v' (n + 1) (cs ++ new) ∧ H.next < H'.next ∧ ∀ k, k < H.next → k < N ∨ M ≤ k → H'.get k = H.get k := by
  rcases h with ⟨rfl, rfl, rfl⟩ | ⟨b, c, h1, h2, rfl, hc, h3, h4⟩
  · have h5 : bytes ≤ roomMax ∧ 1 ≤ roomMax := by simpa using hn
    refine ⟨_, _, by simp [kApp, h5.1, h5.2]; exact ⟨rfl, rfl⟩, ?_, by simp; omega, fun k hk _ => ?_⟩
    · refine .inr ⟨H.next + 1, capx, by omega, by simp, rfl, .inl rfl, ?_, by simp [hz]⟩
      simp
    · rw [get_old (by simp; omega), get_old hk]
  · have hb := lt_cells h3
    have hrd : rd cs 0 (n * z) = some cs := by
      unfold rd; rw [if_pos (by omega), List.drop_zero, List.take_of_length_le (by omega)]
    have hg : (H.push (.cells new t true)).get b = .cells cs t true := by rw [get_old hb]; exact h3
    rcases hc with rfl | rfl
    · refine ⟨_, _, by simp only [kApp, hg, hn, and_self, if_true, Nat.succ_ne_zero, if_false, hrd, Option.map_some, Nat.one_ne_zero]; exact rfl, ?_, ?_, ?_⟩
      · refine .inr ⟨(H.push (.cells new t true)).next, capx, by simp; omega, by simp [next_put], rfl, .inl rfl, ?_, by simp [h4, hz, Nat.succ_mul]⟩
        have := get_last (H := (H.push (.cells new t true)).put b .dead) (b := .cells (cs ++ new) t true)
        rw [next_put] at this; exact this
      · simp [next_put]; omega
      · intro k hk hkN
        rw [get_old (by rw [next_put]; simp; omega), get_put_ne (by omega), get_old hk]
    · have hx : ¬ c = capx := by
        have : roomMax < capx := by decide
        omega
      have hx2 : ¬ c + 1 ≤ c := by omega
      refine ⟨_, _, by simp only [kApp, hg, hn, and_self, if_true, hx, hx2, if_false, hrd, Option.map_some]; exact rfl, ?_, ?_, ?_⟩
      · refine .inr ⟨(H.push (.cells new t true)).next, capx, by simp; omega, by simp, rfl, .inl rfl, get_last, by simp [h4, hz, Nat.succ_mul]⟩
      · simp; omega
      · intro k hk hkN
        rw [get_old (by simp; omega), get_old hk]
/-- an awake law's run: what it comes to, and what stands where the arguments do -/
theorem run_of {S : Sys} {f : FuncId} {args : List Value} {H : Heap} {α : Type} {g : Value × Heap → α} {x : α} {n : Nat} (h : (evFn S n f args H).map g = some x) : Wf S f args H fun v H' => g (v, H') = x := by
  cases hq : evFn S n f args H with
  | none => rw [hq] at h; simp at h
  | some p => rw [hq] at h; exact ⟨n, p.1, p.2, hq, by simpa using h⟩
end Go.Proofs.Ytlboioplemlneaa.K
