/- How deep each symbol is: the walk through a tree. -/
import Derived.Test.YtlboioplemlneaaGreatPG
import Derived.Test.YtlboioplemlneaaGreatPC
set_option maxRecDepth 100000
set_option maxHeartbeats 4000000
set_option linter.unusedVariables false
set_option linter.unusedSimpArgs false
namespace Go.Proofs.YtlboioplemlneaaGreat.K
open Go Go.Proofs
/-- lengths behind some symbols, and the greatest -/
def setA (l : List Int) (xs : List (Nat × Nat × Nat)) : List Int := xs.foldl (fun l x => l.set x.1 (x.2.2 : Int)) l
def mxA (m : Nat) (xs : List (Nat × Nat × Nat)) : Nat := xs.foldl (fun m x => max m x.2.2) m
theorem setA_len (xs : List (Nat × Nat × Nat)) : ∀ l, (setA l xs).length = l.length := by
  induction xs with
  | nil => intro l; rfl
  | cons x xs ih => intro l; show (setA (l.set x.1 _) xs).length = _; rw [ih, List.length_set]
theorem setA_app (l : List Int) (xs ys : List (Nat × Nat × Nat)) : setA l (xs ++ ys) = setA (setA l xs) ys := List.foldl_append ..
theorem mxA_app (m : Nat) (xs ys : List (Nat × Nat × Nat)) : mxA m (xs ++ ys) = mxA (mxA m xs) ys := List.foldl_append ..
theorem mxA_le {b : Nat} (xs : List (Nat × Nat × Nat)) : ∀ m, m ≤ b → (∀ x ∈ xs, x.2.2 ≤ b) → mxA m xs ≤ b := by
  induction xs with
  | nil => intro m h _; exact h
  | cons x xs ih => intro m h hx; exact ih (max m x.2.2) (by have := hx x (by simp); omega) fun y hy => hx y (by simp [hy])
theorem ints_set (l : List Int) (i : Nat) (x : Int) : (ints l).set i (.int .i64 x) = ints (l.set i x) := by simp [ints]
/-- the closure's variables: lengths at N behind the variable at ob, the greatest at db -/
structure Wk (H : Heap) (ob N db : Nat) (l : List Int) (D : Nat) : Prop where
  o : H.get ob = .cells [.slice (some ⟨N, 0, none⟩) l.length l.length] 42 true
  n : H.get N = .cells (ints l) 3 true
  d : H.get db = .cells [.int .i64 D] 3 true
  ne : N ≠ db
structure WkO (H H' : Heap) (N db : Nat) : Prop where
  nx : H'.next = H.next
  k : ∀ k, k ≠ N → k ≠ db → H'.get k = H.get k
def metF (ob db : Nat) : Value := .func (.func 55) #[] #[.pointer (some ⟨ob, 0, none⟩), .pointer (some ⟨db, 0, none⟩)]
section
variable {H : Heap} {ob N db : Nat} {l : List Int} {D : Nat}
theorem met_t (h : Wk H ob N db l D) {s d : Nat} (hs : s < l.length) : Wf S 55 [.int .i64 s, .int .i64 d, .pointer (some ⟨ob, 0, none⟩), .pointer (some ⟨db, 0, none⟩)] H fun v H' => Wk H' ob N db (l.set s (d : Int)) (max D d) ∧ WkO H H' N db := by
  obtain ⟨ho, hn, hd, hne⟩ := h
  have lN := lt_cells hn
  have lD := lt_cells hd
  have hob : ob ≠ N := by rintro rfl; rw [ho] at hn; simp at hn
  have hob2 : ob ≠ db := by rintro rfl; rw [ho] at hd; simp at hd
  have hsl : s < (ints l).length := by simpa [ints] using hs
  have s1 : kSt H (.pointer (some ⟨N, s, none⟩)) (.int .i64 d) = some (H.put N (.cells (ints (l.set s (d : Int))) 3 true)) := by
    simp only [kSt, hn]
    rw [if_pos (by simp [hsl, oneC]), ints_set]
  have g2 : (H.put N (.cells (ints (l.set s (d : Int))) 3 true)).get db = .cells [.int .i64 D] 3 true := (get_put_ne hne.symm).trans hd
  have hmx : max (D : Int) (d : Int) = ((max D d : Nat) : Int) := by omega
  have s2 : kSt (H.put N (.cells (ints (l.set s (d : Int))) 3 true)) (.pointer (some ⟨db, 0, none⟩)) (.int .i64 ((max D d : Nat) : Int)) = some ((H.put N (.cells (ints (l.set s (d : Int))) 3 true)).put db (.cells [.int .i64 ((max D d : Nat) : Int)] 3 true)) := by
    simp [kSt, g2, oneC]
  refine w55 rfl rfl _ _ _ _ ?_
  simp [s55, ho, hs, addOff, s1, g2]
  simp only [hmx, s2]
  refine ⟨⟨?_, ?_, get_put_eq (by rw [next_put]; exact lD), hne⟩, ⟨by rw [next_put, next_put], fun k h1 h2 => by rw [get_put_ne h2, get_put_ne h1]⟩⟩
  · rw [get_put_ne hob2, get_put_ne hob, List.length_set]; exact ho
  · rw [get_put_ne hne, get_put_eq lN]
theorem WkO.kn {H H' : Heap} (h : WkO H H' N db) {l : List Int} {D : Nat} (hw : Wk H ob N db l D) : KN H H' := fun k cs hk => h.k k (by
    rintro rfl; rw [hw.n] at hk; simp at hk) (by
    rintro rfl; rw [hw.d] at hk; simp at hk)
theorem WkO.trans {A B C : Heap} (h : WkO A B N db) (h' : WkO B C N db) : WkO A C N db := ⟨h'.nx.trans h.nx, fun k h1 h2 => (h'.k k h1 h2).trans (h.k k h1 h2)⟩
theorem walk_t : ∀ (t : T) (b d : Nat) (H : Heap) (l : List Int) (D : Nat), Nd H b t → Wk H ob N db l D → (∀ x ∈ t.lv, x.1 < l.length) → d + t.ht ≤ 1000000 →
    Wf S 54 [.pointer (some ⟨b, 0, none⟩), .int .i64 d, metF ob db] H fun v H' => Wk H' ob N db (setA l (t.dp d)) (mxA D (t.dp d)) ∧ WkO H H' N db := by
  intro t
  induction t with
  | leaf w s =>
    intro b d H l D hn hw hs hd
    have hsl := hs (s, w) (by simp [T.lv])
    have hm := met_t hw (s := s) (d := d) hsl
    refine w54 rfl rfl _ _ _ ?_
    have hn : H.get b = .cells [.int .i64 w, .int .i64 s, .int .i64 s, .pointer none, .pointer none] 86 true := hn
    simp [s54, addOff, hn, metF, Env.ev]
    refine hm.mono ?_
    rintro v H1 ⟨h1, h2⟩
    try simp
    exact ⟨h1, h2⟩
  | two o tl tr ihl ihr =>
    intro b d H l D hn hw hs hd
    obtain ⟨bl, br, hb, hl, hr⟩ := hn
    simp only [T.ht] at hd
    have w1 : IntKind.i64.wrap ((d : Int) + 1) = (d : Int) + 1 := wi (by omega) (by omega)
    have e1 : ((d + 1 : Nat) : Int) = (d : Int) + 1 := by omega
    have h1 := ihl bl (d + 1) H l D hl hw (fun x hx => hs x (by simp [T.lv, hx])) (by omega)
    refine w54 rfl rfl _ _ _ ?_
    rw [e1] at h1
    simp [s54, addOff, hb, w1]
    refine h1.mono ?_
    rintro v H1 ⟨hw1, ho1⟩
    have hkn := ho1.kn hw
    have hb1 := (hkn b _ hb).trans hb
    have h2 := ihr br (d + 1) H1 _ _ (Nd.kn hkn hr) hw1 (fun x hx => by rw [setA_len]; exact hs x (by simp [T.lv, hx])) (by omega)
    rw [e1] at h2
    simp [addOff, hb1, w1]
    refine h2.mono ?_
    rintro v H2 ⟨hw2, ho2⟩
    simp only [T.dp, setA_app, mxA_app]
    exact ⟨hw2, ho1.trans ho2⟩
end
end Go.Proofs.YtlboioplemlneaaGreat.K
/- Lengths out of a tree's depths, plainly: they are whole, just where something comes; their cost. -/
set_option maxRecDepth 100000
set_option maxHeartbeats 1000000
set_option linter.unusedVariables false
set_option linter.unusedSimpArgs false
namespace Go.Proofs.YtlboioplemlneaaGreat.K
open Go Go.Proofs
abbrev Sd := Nat × Nat × Nat
/-- a sum over those of a symbol -/
def ind (f : Sd → Int) : List Sd → Nat → Int
  | [], _ => 0
  | x :: xs, k => (if x.1 = k then f x else 0) + ind f xs k
theorem ind_no {f : Sd → Int} : ∀ {xs : List Sd} {k : Nat}, k ∉ xs.map (·.1) → ind f xs k = 0
  | [], k, _ => rfl
  | x :: xs, k, h => by
    simp only [List.map_cons, List.mem_cons, not_or] at h
    simp only [ind]
    rw [if_neg (fun e => h.1 e.symm), ind_no h.2]; rfl
theorem ind_cases : ∀ {xs : List Sd}, (xs.map (·.1)).Nodup → ∀ k, (∃ x ∈ xs, x.1 = k ∧ ∀ f, ind f xs k = f x) ∨ (k ∉ xs.map (·.1) ∧ ∀ f, ind f xs k = 0)
  | [], _, k => .inr ⟨by simp, fun f => rfl⟩
  | x :: xs, h, k => by
    simp only [List.map_cons, List.nodup_cons] at h
    by_cases e : x.1 = k
    · refine .inl ⟨x, by simp, e, fun f => ?_⟩
      simp only [ind]
      rw [if_pos e, ind_no (e ▸ h.1)]; omega
    · rcases ind_cases h.2 k with ⟨y, hy, hk, hf⟩ | ⟨hn, hf⟩
      · exact .inl ⟨y, by simp [hy], hk, fun f => by simp only [ind]; rw [if_neg e, hf]; omega⟩
      · exact .inr ⟨by simp only [List.map_cons, List.mem_cons, not_or]; exact ⟨fun e2 => e e2.symm, hn⟩, fun f => by simp only [ind]; rw [if_neg e, hf]; rfl⟩
def sumI (f : Sd → Int) : List Sd → Int
  | [] => 0
  | x :: xs => f x + sumI f xs
theorem sumTo_at {v : Int} {s : Nat} : ∀ n, sumTo (fun k => if s = k then v else 0) n = if s < n then v else 0
  | 0 => by simp [sumTo]
  | n + 1 => by
    simp only [sumTo, sumTo_at n]
    by_cases h : s < n
    · rw [if_pos h, if_neg (by omega), if_pos (by omega)]; omega
    · by_cases h2 : s = n
      · rw [if_neg h, if_pos h2, if_pos (by omega)]; omega
      · rw [if_neg h, if_neg h2, if_neg (by omega)]; rfl
theorem sum_ind (f : Sd → Int) : ∀ (xs : List Sd) (n : Nat), (∀ x ∈ xs, x.1 < n) → sumTo (ind f xs) n = sumI f xs
  | [], n, _ => by
    show sumTo (fun _ => 0) n = 0
    induction n with
    | zero => rfl
    | succ n ih => simp [sumTo, ih]
  | x :: xs, n, h => by
    show sumTo (fun k => (if x.1 = k then f x else 0) + ind f xs k) n = f x + sumI f xs
    rw [sumTo_add, sumTo_at, if_pos (h x (by simp)), sum_ind f xs n fun y hy => h y (by simp [hy])]
theorem sumI_nat (f : Sd → Nat) : ∀ xs : List Sd, sumI (fun x => (f x : Int)) xs = ((xs.map f).sum : Nat)
  | [] => rfl
  | x :: xs => by simp only [sumI, List.map_cons, List.sum_cons, sumI_nat f xs]; omega
theorem setA_at : ∀ (xs : List Sd) (l : List Int), (xs.map (·.1)).Nodup → (∀ x ∈ xs, x.1 < l.length) → ∀ k, at0 (setA l xs) k = if k ∈ xs.map (·.1) then ind (fun x => (x.2.2 : Int)) xs k else at0 l k
  | [], l, _, _, k => by simp [setA]
  | x :: xs, l, hn, hl, k => by
    simp only [List.map_cons, List.nodup_cons] at hn
    show at0 (setA (l.set x.1 (x.2.2 : Int)) xs) k = _
    rw [setA_at xs _ hn.2 (fun y hy => by rw [List.length_set]; exact hl y (by simp [hy]))]
    simp only [List.map_cons, List.mem_cons, ind]
    by_cases h1 : k ∈ xs.map (·.1)
    · have : ¬ x.1 = k := fun e => hn.1 (e ▸ h1)
      rw [if_pos h1, if_pos (.inr h1), if_neg this]; omega
    · rw [if_neg h1]
      have hx := hl x (by simp)
      by_cases h2 : k = x.1
      · rw [if_pos (.inl h2), if_pos h2.symm, ind_no h1]
        unfold at0
        rw [List.getD_eq_getElem?_getD, List.getElem?_set, h2, if_pos rfl, if_pos hx]
        simp
      · rw [if_neg (by rintro (h | h) <;> contradiction)]
        unfold at0
        rw [List.getD_eq_getElem?_getD, List.getD_eq_getElem?_getD, List.getElem?_set, if_neg (fun e => h2 e.symm)]
theorem lvs_mem {l : List Int} : ∀ {n : Nat} {x : Nat × Nat}, x ∈ lvs l n ↔ x.1 < n ∧ 0 < at0 l x.1 ∧ x.2 = (at0 l x.1).toNat
  | 0, x => by simp [lvs]
  | n + 1, x => by
    simp only [lvs]
    split
    · rename_i h
      rw [List.mem_append, lvs_mem, List.mem_singleton]
      constructor
      · rintro (⟨h1, h2⟩ | rfl)
        · exact ⟨by omega, h2⟩
        · exact ⟨by simp, h, rfl⟩
      · rintro ⟨h1, h2, h3⟩
        by_cases e : x.1 = n
        · right; cases x; simp only at e h3; subst e; rw [h3]
        · left; exact ⟨by omega, h2, h3⟩
    · rename_i h
      rw [lvs_mem]
      constructor
      · rintro ⟨h1, h2⟩; exact ⟨by omega, h2⟩
      · rintro ⟨h1, h2, h3⟩
        by_cases e : x.1 = n
        · rw [e] at h2; exact absurd h2 h
        · exact ⟨by omega, h2, h3⟩
theorem lvs_nodup (l : List Int) : ∀ n, ((lvs l n).map (·.1)).Nodup
  | 0 => by simp [lvs]
  | n + 1 => by
    simp only [lvs]
    split
    · rw [List.map_append, List.nodup_append]
      refine ⟨lvs_nodup l n, by simp, fun a ha b hb => ?_⟩
      obtain ⟨x, hx, rfl⟩ := List.mem_map.1 ha
      have := (lvs_mem.1 hx).1
      simp at hb
      omega
    · exact lvs_nodup l n
theorem lvs_sum (l : List Int) (h0 : ∀ i, 0 ≤ at0 l i) : ∀ n, ((((lvs l n).map (·.2)).sum : Nat) : Int) = sumTo (at0 l) n
  | 0 => rfl
  | n + 1 => by
    have ih := lvs_sum l h0 n
    have := h0 n
    simp only [lvs, sumTo]
    split
    · rw [List.map_append, List.sum_append]; simp; omega
    · omega
/-- lengths that a tree of these counts gives -/
structure LenOk (c l : List Int) (ic : Int) : Prop where
  len : l.length = c.length
  whole : wholeB l = true
  pos : ∀ k, 0 < at0 l k ↔ 0 < at0 c k
  cost : sumTo (fun k => at0 c k * at0 l k) c.length = ic
theorem at0_zeros (n k : Nat) : at0 (List.replicate n 0) k = 0 := by
  unfold at0; rw [List.getD_eq_getElem?_getD, List.getElem?_replicate]; split <;> rfl
theorem at0_out {l : List Int} {k : Nat} (h : l.length ≤ k) : at0 l k = 0 := by
  unfold at0; rw [List.getD_eq_getElem?_getD, List.getElem?_eq_none h]; rfl
theorem right_of {l : List Int} (h : ∀ k, 0 ≤ at0 l k ∧ at0 l k ≤ 11) (hl : l.length ≤ 256) : rightB l = true := by
  simp only [rightB, Bool.and_eq_true, decide_eq_true_eq, List.all_eq_true]
  refine ⟨fun x hx => ?_, hl⟩
  obtain ⟨i, hi, rfl⟩ := List.mem_iff_getElem.1 hx
  have := h i
  rw [at0_of (List.getElem?_eq_getElem hi)] at this
  exact this
/-- depths that fill all -/
theorem lens_of {c : List Int} {xs : List Sd} (hc : ∀ i, 0 ≤ at0 c i) (hcl : c.length ≤ 256) (hp : (xs.map fun x => (x.1, x.2.1)).Perm (lvs c c.length)) (hd : ∀ x ∈ xs, 1 ≤ x.2.2 ∧ x.2.2 ≤ 11)
    (hk : (xs.map (fun x => 2 ^ (11 - x.2.2))).sum = 2048 ∨ xs.length = 1 ∧ (xs.map (fun x => 2 ^ (11 - x.2.2))).sum = 1024) :
    LenOk c (setA (List.replicate c.length 0) xs) ((xs.map (fun x => x.2.1 * x.2.2)).sum : Nat) := by
  have hm : ∀ x ∈ xs, x.1 < c.length ∧ 0 < at0 c x.1 ∧ x.2.1 = (at0 c x.1).toNat := fun x hx => by
    have := hp.mem_iff.1 (List.mem_map.2 ⟨x, hx, rfl⟩)
    exact lvs_mem.1 this
  have hnd : (xs.map (·.1)).Nodup := by
    have h1 := (hp.map (·.1)).nodup_iff.2 (lvs_nodup c c.length)
    rw [List.map_map] at h1
    exact h1
  have hin : ∀ k, k < c.length → 0 < at0 c k → k ∈ xs.map (·.1) := fun k h1 h2 => by
    have := hp.mem_iff.2 (lvs_mem (x := (k, (at0 c k).toNat)).2 ⟨h1, h2, rfl⟩)
    obtain ⟨x, hx, e⟩ := List.mem_map.1 this
    exact List.mem_map.2 ⟨x, hx, congrArg Prod.fst e⟩
  have hlen : (setA (List.replicate c.length (0 : Int)) xs).length = c.length := by rw [setA_len, List.length_replicate]
  obtain ⟨l, hl⟩ : ∃ l, l = setA (List.replicate c.length (0 : Int)) xs := ⟨_, rfl⟩
  rw [← hl] at hlen ⊢
  have hat : ∀ k, at0 l k = ind (fun x => (x.2.2 : Int)) xs k := fun k => by
    rw [hl, setA_at xs _ hnd (fun x hx => by rw [List.length_replicate]; exact (hm x hx).1)]
    split
    · rfl
    · rename_i h; rw [ind_no h, at0_zeros]
  have hbd : ∀ k, 0 ≤ at0 l k ∧ at0 l k ≤ 11 := fun k => by
    rw [hat]
    rcases ind_cases hnd k with ⟨x, hx, _, hf⟩ | ⟨_, hf⟩
    · have := hd x hx
      rw [hf]; (try simp only); omega
    · rw [hf]; omega
  have hpos : ∀ k, 0 < at0 l k ↔ 0 < at0 c k := fun k => by
    rw [hat]
    rcases ind_cases hnd k with ⟨x, hx, hxk, hf⟩ | ⟨hn, hf⟩
    · have h1 := hd x hx
      have h2 := (hm x hx).2.1
      rw [hf, ← hxk]; (try simp only)
      constructor <;> intro <;> omega
    · rw [hf]
      constructor
      · intro h; omega
      · intro h
        by_cases hkl : k < c.length
        · exact absurd (hin k hkl h) hn
        · rw [at0_out (by omega)] at h; omega
  have htot : total l = ((xs.map (fun x => 2 ^ (11 - x.2.2))).sum : Nat) := by
    unfold total
    have h1 : sumTo (taken l) l.length = sumTo (ind (fun x => ((2 ^ (11 - x.2.2) : Nat) : Int)) xs) l.length := sumTo_congr _ fun k _ => by
      unfold taken
      rw [hat]
      rcases ind_cases hnd k with ⟨x, hx, hxk, hf⟩ | ⟨hn, hf⟩
      · have := hd x hx
        rw [hf, hf, if_pos (by (try simp only); omega)]
        unfold part p2
        rw [show (11 - (x.2.2 : Int)).toNat = 11 - x.2.2 by omega]
        push_cast; rfl
      · rw [hf, hf, if_neg (by omega)]
    rw [h1, sum_ind _ _ _ (fun x hx => by rw [hlen]; exact (hm x hx).1), sumI_nat]
  have hcnt : cntP l l.length = xs.length := by
    have h0 : ∀ n, cntP l n = sumTo (fun k => if 0 < at0 l k then 1 else 0) n := fun n => by
      induction n with
      | zero => rfl
      | succ n ih => simp only [cntP, sumTo, ih]
    have h1 : sumTo (fun k => if 0 < at0 l k then 1 else 0) l.length = sumTo (ind (fun _ => ((1 : Nat) : Int)) xs) l.length := sumTo_congr _ fun k _ => by
      rw [hat]
      rcases ind_cases hnd k with ⟨x, hx, hxk, hf⟩ | ⟨hn, hf⟩
      · have := hd x hx
        rw [hf, hf, if_pos (by (try simp only); omega)]; rfl
      · rw [hf, hf, if_neg (by omega)]
    rw [h0, h1, sum_ind _ _ _ (fun x hx => by rw [hlen]; exact (hm x hx).1), sumI_nat]
    have : ∀ ys : List Sd, (ys.map fun _ => 1).sum = ys.length := fun ys => by
      induction ys with
      | nil => rfl
      | cons y ys ih => simp only [List.map_cons, List.sum_cons, List.length_cons, ih]; omega
    rw [this]
  refine ⟨hlen, ?_, hpos, ?_⟩
  · unfold wholeB
    rw [Bool.and_eq_true, Bool.or_eq_true, Bool.and_eq_true, decide_eq_true_eq, decide_eq_true_eq, decide_eq_true_eq]
    refine ⟨right_of hbd (by omega), ?_⟩
    rw [htot, hcnt]
    rcases hk with h | ⟨h1, h2⟩
    · left; omega
    · right; omega
  · have h1 : sumTo (fun k => at0 c k * at0 l k) c.length = sumTo (ind (fun x => ((x.2.1 * x.2.2 : Nat) : Int)) xs) c.length := sumTo_congr _ fun k _ => by
      simp only [hat]
      rcases ind_cases hnd k with ⟨x, hx, hxk, hf⟩ | ⟨hn, hf⟩
      · have h2 := hm x hx
        have := hc x.1
        rw [hf, hf, ← hxk]
        try simp only
        rw [Int.natCast_mul, h2.2.2, Int.toNat_of_nonneg this]
      · rw [hf, hf]; omega
    rw [h1, sum_ind _ _ _ (fun x hx => (hm x hx).1), sumI_nat]
end Go.Proofs.YtlboioplemlneaaGreat.K
/- huff.Lengths: lengths of counts of up to 376 in all. -/
set_option maxRecDepth 100000
set_option maxHeartbeats 4000000
set_option linter.unusedVariables false
set_option linter.unusedSimpArgs false
namespace Go.Proofs.YtlboioplemlneaaGreat.K
open Go Go.Proofs
theorem cright_len {c : List Int} (h : cright c = true) : c.length ≤ 256 := by
  simp only [cright, Bool.and_eq_true, decide_eq_true_eq] at h
  exact h.2.2
theorem cright_bd {c : List Int} (h : cright c = true) : ∀ x ∈ c, 0 ≤ x ∧ x ≤ 1048576 := fun x hx => by
  simp only [cright, Bool.and_eq_true, decide_eq_true_eq, List.all_eq_true, okC] at h
  exact h.1 x hx
theorem cright_some {c : List Int} (h : cright c = true) : 0 < (lvs c c.length).length := by
  simp only [cright, Bool.and_eq_true, decide_eq_true_eq, List.any_eq_true, posC] at h
  obtain ⟨x, hx, hp⟩ := h.2.1
  obtain ⟨i, hi, rfl⟩ := List.mem_iff_getElem.1 hx
  have h1 := at0_of (List.getElem?_eq_getElem hi)
  have : (i, (at0 c i).toNat) ∈ lvs c c.length := lvs_mem.2 ⟨hi, by rw [h1]; exact hp, rfl⟩
  exact List.length_pos_of_mem this
/-- the answer: lengths of c, and yes -/
def LenV (c : List Int) (v : Value) (H' : Heap) : Prop := ∃ N l ic, v = .tuple #[.slice (some ⟨N, 0, none⟩) c.length c.length, .bool true] ∧ H'.get N = .cells (ints l) 3 true ∧ LenOk c l ic
section
variable {H : Heap} {a : Option Addr} {cc : Nat} {c : List Int}
theorem Lengths_t (hl : Iv H a c) (hr : cright c = true) (hs : sumTo (at0 c) c.length ≤ 376) :
    Wf S 30 [.slice a c.length cc] H fun v H' => Kp H.next H H' ∧ LenV c v H' := by
  have hlen := cright_len hr
  have hbd := cright_bd hr
  have hcb := ct_bd hbd
  refine w30 rfl rfl _ ?_
  simp [s30]
  refine (cRight_t hl (by omega)).mono ?_
  rintro v H1 ⟨rfl, rfl⟩
  rw [hr]
  try simp
  refine (tree_t hl hlen hbd (cright_some hr)).mono ?_
  rintro v H2 ⟨hk2, x, rfl, hx2, hsib, hpos, hlv, hhc⟩
  obtain ⟨bx, t⟩ := x
  simp only at hlv hhc hsib hpos
  have hmks : kMks H2 3 [.int .i64 0] 8 (.int .i64 (c.length : Int)) (.int .i64 (c.length : Int)) = some (.slice (some ⟨H2.next, 0, none⟩) c.length c.length, H2.push (.cells (ints (List.replicate c.length 0)) 3 true)) := by
    simp only [kMks]
    rw [if_pos (by omega)]
    have : zeros [.int .i64 0] c.length = ints (List.replicate c.length 0) := by
      simp [zeros, ints]
    simp only [Int.toNat_natCast, this]
  obtain ⟨N, hN⟩ : ∃ N, N = H2.next := ⟨_, rfl⟩
  obtain ⟨H3, hH3⟩ : ∃ H3, H3 = (H2.push (.cells (ints (List.replicate c.length 0)) 3 true)).push (.cells [.slice (some ⟨N, 0, none⟩) c.length c.length] 42 true) := ⟨_, rfl⟩
  have hk3 : Kp H2.next H2 H3 := ⟨by rw [hH3]; simp; omega, fun k hk => by rw [hH3, get_old (by simp; omega), get_old hk]⟩
  have hn3 : H3.next = N + 2 := by rw [hH3, hN]; simp
  have gN : H3.get N = .cells (ints (List.replicate c.length 0)) 3 true := by rw [hH3, hN, get_old (by simp), get_last]
  have gO : H3.get (N + 1) = .cells [.slice (some ⟨N, 0, none⟩) c.length c.length] 42 true := by
    rw [hH3, hN]
    have := get_last (H := H2.push (.cells (ints (List.replicate c.length 0)) 3 true)) (b := .cells [.slice (some ⟨H2.next, 0, none⟩) c.length c.length] 42 true)
    simp
  have hx3 : Nd H3 bx t := Nd.kn (KN.kp hk3) hx2
  have hk13 := hk2.trans (hk3.mono hk2.1)
  have hmem : ∀ x ∈ t.lv, x.1 < c.length := fun x hx => (lvs_mem.1 (hlv.mem_iff.1 hx)).1
  have hH1N : H1.next ≤ N := by rw [hN]; exact hk2.1
  have hst : kSt ((H2.push (.cells (ints (List.replicate c.length 0)) 3 true)).push (.cells [.slice none 0 0] 42 true)) (.pointer (some ⟨H2.next + 1, 0, none⟩)) (.slice (some ⟨H2.next, 0, none⟩) c.length c.length) = some H3 := by
    have e1 : (H2.push (.cells (ints (List.replicate c.length 0)) 3 true)).next = H2.next + 1 := by simp
    have g := get_last (H := H2.push (.cells (ints (List.replicate c.length 0)) 3 true)) (b := .cells [.slice none 0 0] 42 true)
    rw [e1] at g
    have p := put_last (H := H2.push (.cells (ints (List.replicate c.length 0)) 3 true)) (x := .cells [.slice none 0 0] 42 true) (y := .cells [.slice (some ⟨H2.next, 0, none⟩) c.length c.length] 42 true)
    rw [e1] at p
    rw [hH3, hN]
    simp [kSt, g, oneC, p]
  simp [ptrN, hmks]
  rw [hst, ← hN]
  simp only [oH_some]
  cases t with
  | leaf w s =>
    have hx3 : H3.get bx = .cells [.int .i64 w, .int .i64 s, .int .i64 s, .pointer none, .pointer none] 86 true := hx3
    have hsl := hmem (s, w) (by simp [T.lv])
    have hsl' : s < (ints (List.replicate c.length (0 : Int))).length := by simpa [ints] using hsl
    have s1 : kSt H3 (.pointer (some ⟨N, s, none⟩)) (.int .i64 1) = some (H3.put N (.cells (ints ((List.replicate c.length (0 : Int)).set s 1)) 3 true)) := by
      simp only [kSt, gN]
      rw [if_pos (by simp [oneC]; exact hsl'), ints_set]
    have lN := lt_cells gN
    have gO2 : (H3.put N (.cells (ints ((List.replicate c.length (0 : Int)).set s 1)) 3 true)).get (N + 1) = .cells [.slice (some ⟨N, 0, none⟩) c.length c.length] 42 true := by
      rw [get_put_ne (by omega)]; exact gO
    have hok := lens_of (c := c) (xs := [(s, w, 1)]) (fun i => (hcb i).1) hlen (by simpa [T.lv] using hlv) (by simp) (.inr (by simp))
    simp [addOff, hx3, gO, hsl, s1, gO2, tup]
    exact ⟨⟨by rw [next_put]; exact hk13.1, fun k hk => by rw [get_put_ne (by omega)]; exact hk13.2 k hk⟩, ⟨N, _, _, rfl, get_put_eq lN, hok⟩⟩
  | two o tl tr =>
    obtain ⟨bl, br, hb, hnl, hnr⟩ := hx3
    have hd : (T.two o tl tr).ht ≤ 11 := T.shallow hsib hpos (by
      have h1 := (hlv.map (·.2)).sum_nat
      rw [T.lv_w] at h1
      have h2 := lvs_sum c (fun i => (hcb i).1) c.length
      omega)
    obtain ⟨t, ht⟩ : ∃ t, t = T.two o tl tr := ⟨_, rfl⟩
    have hnd : Nd H3 bx t := ht ▸ ⟨bl, br, hb, hnl, hnr⟩
    have hd1 : ∀ x ∈ t.dp 0, 1 ≤ x.2.2 := by
      rw [ht]
      intro x hx
      simp only [T.dp, List.mem_append] at hx
      rcases hx with hx | hx
      · exact (T.dp_ge _ _ x hx).1
      · exact (T.dp_ge _ _ x hx).1
    rw [← ht] at hlv hd hmem
    have hd2 : ∀ x ∈ t.dp 0, x.2.2 ≤ 11 := fun x hx => by
      have := (T.dp_ge _ _ x hx).2; omega
    obtain ⟨H4, hH4⟩ : ∃ H4, H4 = H3.push (.cells [.int .i64 0] 3 true) := ⟨_, rfl⟩
    have hk4 : Kp H3.next H3 H4 := hH4 ▸ Kp.push (Nat.le_refl _)
    have hw4 : Wk H4 (N + 1) N H3.next (List.replicate c.length (0 : Int)) 0 := by
      refine ⟨?_, ?_, by rw [hH4]; exact get_last, by omega⟩
      · rw [hk4.2 _ (by omega), List.length_replicate]; exact gO
      · rw [hk4.2 _ (by omega)]; exact gN
    have hwk := walk_t t bx 0 H4 _ 0 (Nd.kn (KN.kp hk4) hnd) hw4 (by rw [List.length_replicate]; exact hmem) (by omega)
    have hok := lens_of (c := c) (xs := t.dp 0) (fun i => (hcb i).1) hlen (by rw [T.dp_lv]; exact hlv) (fun x hx => ⟨hd1 x hx, hd2 x hx⟩) (.inl (T.dp_kraft t 0 (by omega)))
    have hst4 : kSt H4 (.pointer (some ⟨H3.next, 0, none⟩)) (.int .i64 0) = some H4 := by
      have := put_last (H := H3) (x := .cells [.int .i64 0] 3 true) (y := .cells [.int .i64 0] 3 true)
      simp [kSt, hw4.d, oneC]
      rw [hH4]; exact this
    have hm := mxA_le (t.dp 0) 0 (by omega) hd2
    simp [addOff, hb]
    rw [← hH4, hst4]
    simp only [oH_some]
    refine Wf.mono hwk ?_
    rintro v H5 ⟨hw5, ho5⟩
    have go := hw5.o
    have gd := hw5.d
    rw [setA_len, List.length_replicate] at go
    have h11 : ¬ (11 : Int) < ((mxA 0 (t.dp 0) : Nat) : Int) := by omega
    have h11' : ¬ 11 < mxA 0 (t.dp 0) := by omega
    simp [gd, h11, h11', go, tup]
    exact ⟨⟨by rw [ho5.nx]; exact Nat.le_trans hk13.1 hk4.1, fun k hk => by rw [ho5.k k (by omega) (by omega), hk4.2 k (by omega)]; exact hk13.2 k hk⟩, ⟨N, _, _, rfl, hw5.n, hok⟩⟩
end
end Go.Proofs.YtlboioplemlneaaGreat.K
/- count.Of: how often bytes come. -/
set_option maxRecDepth 100000
set_option maxHeartbeats 2000000
set_option linter.unusedVariables false
set_option linter.unusedSimpArgs false
namespace Go.Proofs.YtlboioplemlneaaGreat.K
open Go Go.Proofs
/-- one byte more -/
def stepC (c : List Int) (x : UInt8) : List Int :=
  let c' := c ++ List.replicate (x.toNat + 1 - c.length) 0
  c'.set x.toNat (at0 c' x.toNat + 1)
def ofC (b : Bytes) : List Int := b.foldl stepC []
theorem ofC_succ {b : Bytes} {i : Nat} {x : UInt8} (h : b[i]? = some x) : ofC (b.take (i + 1)) = stepC (ofC (b.take i)) x := by
  unfold ofC
  rw [List.take_add_one, h, List.foldl_append]; rfl
theorem at0_app (c : List Int) (n k : Nat) : at0 (c ++ List.replicate n 0) k = at0 c k := by
  unfold at0
  rw [List.getD_eq_getElem?_getD, List.getD_eq_getElem?_getD]
  by_cases h : k < c.length
  · rw [List.getElem?_append_left h]
  · rw [List.getElem?_append_right (by omega), List.getElem?_replicate, List.getElem?_eq_none (l := c) (by omega)]
    split <;> rfl
theorem stepC_len (c : List Int) (x : UInt8) : (stepC c x).length = max c.length (x.toNat + 1) := by simp [stepC]; omega
theorem stepC_at (c : List Int) (x : UInt8) (k : Nat) : at0 (stepC c x) k = at0 c k + if k = x.toNat then 1 else 0 := by
  show at0 ((c ++ List.replicate (x.toNat + 1 - c.length) 0).set x.toNat (at0 (c ++ List.replicate (x.toNat + 1 - c.length) 0) x.toNat + 1)) k = _
  rw [at0_app]
  by_cases h : k = x.toNat
  · subst h
    rw [if_pos rfl]
    unfold at0
    rw [List.getD_eq_getElem?_getD, List.getElem?_set, if_pos rfl, if_pos (by simp; omega)]; rfl
  · rw [if_neg h, ← at0_app c (x.toNat + 1 - c.length) k]
    unfold at0
    rw [List.getD_eq_getElem?_getD, List.getElem?_set, if_neg (fun e => h e.symm), List.getD_eq_getElem?_getD]; omega
theorem ofC_len (b : Bytes) : (ofC b).length ≤ 256 := by
  have : ∀ (b : Bytes) (c : List Int), c.length ≤ 256 → (b.foldl stepC c).length ≤ 256 := by
    intro b
    induction b with
    | nil => intro c h; exact h
    | cons x b ih => intro c h; exact ih _ (by rw [stepC_len]; have := x.toNat_lt; omega)
  exact this b [] (by simp)
theorem ofC_at (b : Bytes) (k : Nat) : at0 (ofC b) k = ((b.filter fun x => x.toNat = k).length : Nat) := by
  have : ∀ (b : Bytes) (c : List Int), at0 (b.foldl stepC c) k = at0 c k + ((b.filter fun x => x.toNat = k).length : Nat) := by
    intro b
    induction b with
    | nil => intro c; simp
    | cons x b ih =>
      intro c
      show at0 (b.foldl stepC (stepC c x)) k = _
      rw [ih, stepC_at, List.filter_cons]
      by_cases h : x.toNat = k
      · simp [h]; omega
      · rw [if_neg (fun e => h e.symm)]; simp [h]
  have := this b []
  unfold ofC
  rw [this]
  simp [at0]
theorem sumTo_c {c : List Int} {x : UInt8} {n : Nat} (h : (stepC c x).length ≤ n) : sumTo (at0 (stepC c x)) n = sumTo (at0 c) n + 1 := by
  have h1 : sumTo (at0 (stepC c x)) n = sumTo (fun k => at0 c k + (fun k => if k = x.toNat then (1 : Int) else 0) k) n := sumTo_congr _ fun k _ => stepC_at c x k
  rw [h1, sumTo_add]
  have hx : x.toNat < n := by rw [stepC_len] at h; omega
  have h2 : ∀ n, sumTo (fun k => if k = x.toNat then (1 : Int) else 0) n = if x.toNat < n then 1 else 0 := by
    intro n
    induction n with
    | zero => simp [sumTo]
    | succ n ih =>
      simp only [sumTo, ih]
      by_cases a : x.toNat < n
      · rw [if_pos a, if_neg (by omega), if_pos (by omega)]; rfl
      · by_cases e : n = x.toNat
        · rw [if_neg a, if_pos e, if_pos (by omega)]; rfl
        · rw [if_neg a, if_neg e, if_neg (by omega)]; rfl
  rw [h2, if_pos hx]
theorem ofC_sum (b : Bytes) : sumTo (at0 (ofC b)) (ofC b).length = b.length := by
  have hz : ∀ (c : List Int) n m, c.length ≤ n → n ≤ m → sumTo (at0 c) m = sumTo (at0 c) n := by
    intro c n m h1 h2
    induction h2 with
    | refl => rfl
    | step h2 ih =>
      rename_i m
      have : at0 c m = 0 := by
        have h2' : n ≤ m := h2
        unfold at0; rw [List.getD_eq_getElem?_getD, List.getElem?_eq_none (by omega)]; rfl
      simp only [sumTo, ih, this]; omega
  have : ∀ (b : Bytes) (c : List Int), c.length ≤ 256 → sumTo (at0 (b.foldl stepC c)) 256 = sumTo (at0 c) 256 + b.length := by
    intro b
    induction b with
    | nil => intro c _; simp
    | cons x b ih =>
      intro c hc
      have hl : (stepC c x).length ≤ 256 := by rw [stepC_len]; have := x.toNat_lt; omega
      show sumTo (at0 (b.foldl stepC (stepC c x))) 256 = _
      rw [ih _ hl, sumTo_c hl]; simp; omega
  have h := this b [] (by simp)
  have h0 : sumTo (at0 []) 256 = 0 := by
    have := hz [] 0 256 (by simp) (by omega)
    rw [this]; rfl
  rw [h0] at h
  rw [← hz (ofC b) (ofC b).length 256 (Nat.le_refl _) (ofC_len b)]
  show sumTo (at0 (b.foldl stepC [])) 256 = _
  omega
theorem ofC_right {b : Bytes} (h0 : 0 < b.length) (h1 : b.length ≤ 1048576) : cright (ofC b) = true := by
  have hall : AllC (ofC b) := by
    unfold AllC
    rw [List.all_eq_true]
    intro x hx
    obtain ⟨i, hi, rfl⟩ := List.mem_iff_getElem.1 hx
    have e := at0_of (List.getElem?_eq_getElem hi)
    rw [← e, ofC_at]
    have := List.length_filter_le (fun x : UInt8 => decide (x.toNat = i)) b
    simp only [okC, Bool.and_eq_true, decide_eq_true_eq]
    omega
  have hs := (sum_pos hall (ofC b).length (Nat.le_refl _)).1 (by rw [ofC_sum]; omega)
  rw [List.take_length] at hs
  simp only [cright, Bool.and_eq_true, decide_eq_true_eq]
  exact ⟨hall, hs, ofC_len b⟩
theorem ofC_pos {b : Bytes} {k : Nat} : 0 < at0 (ofC b) k ↔ ∃ x ∈ b, x.toNat = k := by
  rw [ofC_at]
  constructor
  · intro h
    have : 0 < (b.filter fun x => x.toNat = k).length := by omega
    obtain ⟨x, hx⟩ := List.exists_mem_of_length_pos this
    have := List.mem_filter.1 hx
    exact ⟨x, this.1, by simpa using this.2⟩
  · rintro ⟨x, hx, e⟩
    have : x ∈ b.filter fun x => x.toNat = k := List.mem_filter.2 ⟨hx, by simpa using e⟩
    have := List.length_pos_of_mem this
    omega
end Go.Proofs.YtlboioplemlneaaGreat.K
/- count.Of, walked. -/
set_option maxRecDepth 100000
set_option maxHeartbeats 4000000
set_option linter.unusedVariables false
set_option linter.unusedSimpArgs false
namespace Go.Proofs.YtlboioplemlneaaGreat.K
open Go Go.Proofs
section
variable {H : Heap} {a : Option Addr} {cc : Nat} {b : Bytes}
structure CofI (H0 : Heap) (a0 : Value) (b : Bytes) (d : Nat) (e : Fe) (H : Heap) (i : Nat) : Prop where
  hi : i ≤ b.length
  h2 : d = b.length - i
  kp : Kp H0.next H0 H
  acc : Acc 3 1 H0.next H.next H (e 3) (ofC (b.take i)).length (ints (ofC (b.take i)))
  e6 : e 6 = a0
  e7 : e 7 = .int .i64 b.length
  e8 : e 8 = .int .i64 i
/-- noughts are put behind till there is room -/
structure CogI (H0 : Heap) (a0 : Value) (b : Bytes) (c : List Int) (x : UInt8) (i : Nat) (d : Nat) (e : Fe) (H : Heap) (m : Nat) : Prop where
  h2 : d = x.toNat + 1 - c.length - m
  hm : m ≤ x.toNat + 1 - c.length
  kp : Kp H0.next H0 H
  acc : Acc 3 1 H0.next H.next H (e 3) (c.length + m) (ints (c ++ List.replicate m 0))
  e5 : e 5 = bv x
  e6 : e 6 = a0
  e7 : e 7 = .int .i64 b.length
  e8 : e 8 = .int .i64 i
theorem ints_app (l m : List Int) : ints (l ++ m) = ints l ++ ints m := by simp [ints]
theorem ints_set2 (l : List Int) (i : Nat) (x : Int) : (ints l).set i (.int .i64 x) = ints (l.set i x) := by simp [ints]
theorem Cof_t (hl : Bv H a b) (hlen : b.length ≤ 1000000) : Wf S 31 [.slice a b.length cc] H fun v H' => Kp H.next H H' ∧ Acc 3 1 H.next H'.next H' v (ofC b).length (ints (ofC b)) := by
  refine w31 rfl rfl _ ?_
  simp [s31]
  refine l31_0 S (fun d e H' => ∃ i, CofI H (.slice a b.length cc) b d e H' i) b.length ⟨0, by omega, by omega, Kp.refl _ _, by simpa [ofC, ints] using Acc.nil, by simp, by simp, by simp⟩ ?_
  rintro d e H1 ⟨i, hi, rfl, hk, hA, e6, e7, e8⟩
  by_cases h3 : i < b.length
  · obtain ⟨x, hx⟩ : ∃ x, b[i]? = some x := ⟨_, List.getElem?_eq_getElem h3⟩
    obtain ⟨bb, o, cs, rw', rfl, hg, hc⟩ := (hl.kp hk) (by omega)
    have hcx := hc i x hx
    have hw : IntKind.i64.wrap ((i : Int) + 1) = (i : Int) + 1 := wi (by omega) (by omega)
    have hxb := x.toNat_lt
    obtain ⟨c, hcd⟩ : ∃ c, c = ofC (b.take i) := ⟨_, rfl⟩
    have hcl : c.length ≤ 256 := hcd ▸ ofC_len _
    have hsucc := ofC_succ hx
    rw [← hcd] at hA hsucc
    simp [s31_0, e6, e7, e8, h3, addOff, hg, hcx]
    refine l31_1 S (fun d e H' => ∃ m, CogI H (.slice (some ⟨bb, o, none⟩) b.length cc) b c x i d e H' m) (x.toNat + 1 - c.length) ⟨0, by omega, by omega, hk, by simpa using hA, by simp, by simp [e6], by simp [e7], by simp [e8]⟩ ?_
    rintro d2 e2 H2 ⟨m, rfl, hm, hk2, hA2, f5, f6, f7, f8⟩
    obtain ⟨sa, sc, hsv, hsg⟩ := hA2.len
    have hwx : IntKind.i64.wrap (x.toNat : Int) = (x.toNat : Int) := wi (by omega) (by omega)
    have hbv : bv x = .int .u8 x.toNat := rfl
    by_cases h4 : c.length + m ≤ x.toNat
    · have h4' : ((c.length : Int) + (m : Int)) ≤ x.toNat := by omega
      obtain ⟨v', H3, hap, hA3, hlt3, hold3⟩ := hA2.app (bytes := 8) (new := [.int .i64 0]) hk2.1 (Nat.le_refl _) rfl (by unfold roomMax; omega)
      have hap' := hap
      rw [hsv] at hap'
      simp [s31_1, hsv, f5, hbv, hwx, h4, h4', kFill, evPs, isTup, cellsL, wr, kRow, rd]
      rw [hap']
      simp
      refine ⟨x.toNat + 1 - c.length - (m + 1), by omega, m + 1, rfl, by omega, ⟨by have := hk2.1; omega, fun k hkk => by rw [hold3 k (by have := hk2.1; omega) (.inl hkk)]; exact hk2.2 k hkk⟩, ?_, by simp [f5], by simp [f6], by simp [f7], by simp [f8]⟩
      simp only [upd_i]
      rw [List.replicate_succ', ← List.append_assoc, ints_app]
      exact hA3
    · have h4' : ¬ ((c.length : Int) + (m : Int)) ≤ x.toNat := by omega
      have hm2 : m = x.toNat + 1 - c.length := by omega
      have hlt : x.toNat < c.length + m := by omega
      obtain ⟨b3, c3, hv3, hN3, hM3, hg3, hst, hA3⟩ := hA2.set hlt (x := .int .i64 (at0 c x.toNat + 1)) rfl
      have hcells : (ints (c ++ List.replicate m 0)).set x.toNat (.int .i64 (at0 c x.toNat + 1)) = ints (stepC c x) := by
        rw [ints_set2]
        show _ = ints ((c ++ List.replicate (x.toNat + 1 - c.length) 0).set x.toNat (at0 (c ++ List.replicate (x.toNat + 1 - c.length) 0) x.toNat + 1))
        rw [at0_app, hm2]
      have hat : (ints (c ++ List.replicate m 0))[x.toNat]? = some (.int .i64 (at0 c x.toNat)) := by
        have hl2 : x.toNat < (c ++ List.replicate m (0 : Int)).length := by simp; omega
        have := at0_of (List.getElem?_eq_getElem hl2)
        rw [at0_app] at this
        simp only [ints, List.getElem?_map, List.getElem?_eq_getElem hl2, Option.map_some, this]
      have hb1 : at0 c x.toNat ≤ b.length := by
        rw [hcd, ofC_at]
        have := List.length_filter_le (fun y : UInt8 => decide (y.toNat = x.toNat)) (b.take i)
        rw [List.length_take] at this
        omega
      have hb0 : 0 ≤ at0 c x.toNat := by rw [hcd, ofC_at]; omega
      have hw1 : IntKind.i64.wrap (at0 c x.toNat + 1) = at0 c x.toNat + 1 := wi (by omega) (by omega)
      have hlen2 : (stepC c x).length = c.length + m := by rw [stepC_len]; omega
      rw [hcells] at hst hA3
      have hltb := lt_cells hg3
      simp [s31_1, hv3, f5, f8, hbv, hwx, h4, h4', addOff, hlt, hg3, hat, hw1, hst, hw]
      refine ⟨by omega, b.length - (i + 1), by omega, i + 1, by omega, rfl, ⟨by rw [next_put]; exact hk2.1, fun k hkk => (get_put_ne (by omega)).trans (hk2.2 k hkk)⟩, ?_, by simp [f6], by simp [f7], by simp⟩
      rw [hsucc, hlen2, next_put]
      rw [hv3] at hA3
      simpa [hv3] using hA3
  · have h5 : i = b.length := by omega
    subst h5
    rw [List.take_length] at hA
    simp [s31_0, e6, e7, e8]
    exact ⟨hk, hA⟩
end
end Go.Proofs.YtlboioplemlneaaGreat.K
/- As many bits as the lengths' cost; plainly. -/
set_option maxRecDepth 100000
set_option maxHeartbeats 2000000
set_option linter.unusedVariables false
set_option linter.unusedSimpArgs false
namespace Go.Proofs.YtlboioplemlneaaGreat.K
open Go Go.Proofs
theorem sumTo_up {f : Nat → Int} {n m : Nat} (h : n ≤ m) (hf : ∀ k, n ≤ k → f k = 0) : sumTo f m = sumTo f n := by
  induction h with
  | refl => rfl
  | step h2 ih => simp only [sumTo, ih, hf _ h2]; omega
theorem enc_cost {l : List Int} (hl : ∀ k, 0 ≤ at0 l k) (b : Bytes) : ((encB l b).length : Int) = sumTo (fun k => at0 (ofC b) k * at0 l k) (ofC b).length := by
  have hpt : ∀ (v : Int) (x : Nat), ∀ n, sumTo (fun k => if k = x then v else 0) n = if x < n then v else 0 := by
    intro v x n
    induction n with
    | zero => simp [sumTo]
    | succ n ih =>
      simp only [sumTo, ih]
      by_cases a : x < n
      · rw [if_pos a, if_neg (by omega), if_pos (by omega)]; omega
      · by_cases e : n = x
        · rw [if_neg a, if_pos e, if_pos (by omega)]; omega
        · rw [if_neg a, if_neg e, if_neg (by omega)]; rfl
  have key : ∀ (b : Bytes) (c : List Int), sumTo (fun k => at0 (b.foldl stepC c) k * at0 l k) 256 = sumTo (fun k => at0 c k * at0 l k) 256 + (encB l b).length := by
    intro b
    induction b with
    | nil => intro c; simp [encB]
    | cons x b ih =>
      intro c
      show sumTo (fun k => at0 (b.foldl stepC (stepC c x)) k * at0 l k) 256 = _
      rw [ih]
      have h1 : sumTo (fun k => at0 (stepC c x) k * at0 l k) 256 = sumTo (fun k => (fun k => at0 c k * at0 l k) k + (fun k => if k = x.toNat then at0 l x.toNat else 0) k) 256 := sumTo_congr _ fun k _ => by
        simp only [stepC_at]
        by_cases e : k = x.toNat
        · rw [if_pos e, if_pos e, Int.add_mul, e]; omega
        · rw [if_neg e, if_neg e]; simp
      have hx := x.toNat_lt
      have h2 : (encB l (x :: b)).length = (codeB l x.toNat).length + (encB l b).length := by simp [encB]
      have h3 := codeB_len (l := l) (s := x.toNat)
      have h4 := hl x.toNat
      rw [h1, sumTo_add, hpt, if_pos (by omega), h2]
      omega
  have h0 := key b []
  have hz : sumTo (fun k => at0 ([] : List Int) k * at0 l k) 256 = 0 := by
    rw [sumTo_up (n := 0) (by omega) fun k _ => by simp [at0]]; rfl
  rw [hz] at h0
  rw [← sumTo_up (f := fun k => at0 (ofC b) k * at0 l k) (ofC_len b) fun k hk => by rw [at0_out hk]; simp]
  show _ = sumTo (fun k => at0 (b.foldl stepC []) k * at0 l k) 256
  omega
/-- all bytes have codes by the lengths of their counts -/
theorem len_ok {b : Bytes} {l : List Int} {ic : Int} (h : LenOk (ofC b) l ic) : okB l b := fun x hx => (h.pos x.toNat).2 (ofC_pos.2 ⟨x, hx, rfl⟩)
theorem iv_ints {H : Heap} {N : Nat} {l : List Int} {rw : Bool} (h : H.get N = .cells (ints l) 3 rw) : Iv H (some ⟨N, 0, none⟩) l := fun _ => ⟨N, 0, ints l, rw, rfl, h, fun i x hx => by simp [ints, hx]⟩
theorem Acc.ivI {N M n : Nat} {H : Heap} {v : Value} {l : List Int} (h : Acc 3 1 N M H v n (ints l)) (hn : l.length = n) : ∃ a c, v = .slice a l.length c ∧ Iv H a l := by
  obtain ⟨a, c, rfl, hg⟩ := h.len
  refine ⟨a, c, by rw [hn], fun hp => ?_⟩
  obtain ⟨b, rfl, hb⟩ := hg (by omega)
  exact ⟨b, 0, ints l, true, rfl, hb, fun i x hx => by simp [ints, hx]⟩
end Go.Proofs.YtlboioplemlneaaGreat.K
