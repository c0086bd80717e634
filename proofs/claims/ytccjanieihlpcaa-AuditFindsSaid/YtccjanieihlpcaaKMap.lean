/- Maps of K by their looks: what a key is found as, behind each act. -/
import Derived.Test.YtccjanieihlpcaaKSimp
set_option linter.unusedVariables false
set_option linter.unusedSimpArgs false
set_option linter.unusedSectionVars false
namespace Go.Proofs.Ytccjanieihlpcaa.K
open Go
section
variable {α : Type} [DecidableEq α]
/-- keys of a kind, by their names -/
structure KEnc (kk : EqK) (enc : α → Value) : Prop where
  eq : ∀ a b, kEq kk (enc a) (enc b) = some (decide (a = b))
  key : ∀ a, kKey kk (enc a) = true
def look (ks : List (α × Value)) (a : α) : Option Value := (ks.find? fun p => decide (a = p.1)).map (·.2)
/-- a map's rows are these pairs -/
def Rows (enc : α → Value) (es : List MapEntry) (ks : List (α × Value)) : Prop := es.map (fun e => (e.key, e.val)) = ks.map fun p => (enc p.1, p.2)
theorem find_rows {kk : EqK} {enc : α → Value} (hk : KEnc kk enc) {es : List MapEntry} {ks : List (α × Value)} (h : Rows enc es ks) (a : α) (i : Nat) :
    (look ks a = none ∧ kFind kk (enc a) es i = some none) ∨ ∃ j e v, look ks a = some v ∧ kFind kk (enc a) es i = some (some (i + j, e)) ∧ e.val = v ∧ es[j]? = some e ∧ ks[j]? = some (a, v) := by
  induction ks generalizing es i with
  | nil =>
    cases es with
    | nil => left; exact ⟨rfl, rfl⟩
    | cons e es => simp [Rows] at h
  | cons p ks ih =>
    cases es with
    | nil => simp [Rows] at h
    | cons e es =>
      simp only [Rows, List.map_cons, List.cons.injEq, Prod.mk.injEq] at h
      obtain ⟨⟨hk1, hv1⟩, h⟩ := h
      simp only [kFind, hk1, hk.eq, Option.bind_some]
      by_cases hc : a = p.1
      · right
        refine ⟨0, e, p.2, ?_, ?_, hv1, rfl, ?_⟩
        · simp [look, hc]
        · simp [hc]
        · simp [hc]
      · rcases ih (es := es) h (i + 1) with ⟨h1, h2⟩ | ⟨j, e', v, h1, h2, h3, h4, h5⟩
        · left
          refine ⟨?_, ?_⟩
          · simpa [look, hc] using h1
          · simpa [hc] using h2
        · right
          refine ⟨j + 1, e', v, ?_, ?_, h3, by simpa using h4, by simpa using h5⟩
          · simpa [look, hc] using h1
          · simp [hc, h2]; omega
theorem look_append {ks : List (α × Value)} {a b : α} {v : Value} (h : look ks a = none) : look (ks ++ [(a, v)]) b = if b = a then some v else look ks b := by
  unfold look at *
  rw [List.find?_append]
  by_cases hb : b = a
  · subst hb
    simp only [Option.map_eq_none_iff] at h
    simp [h]
  · simp [hb]
theorem look_set : ∀ {ks : List (α × Value)} {a b : α} {j : Nat} {v w : Value}, look ks a = some w → ks[j]? = some (a, w) → (∀ i p, i < j → ks[i]? = some p → p.1 ≠ a) → look (ks.set j (a, v)) b = if b = a then some v else look ks b
  | [], a, b, j, v, w, _, h, _ => by simp at h
  | p :: ks, a, b, 0, v, w, h, hj, _ => by
    simp at hj; subst hj
    simp only [List.set_cons_zero, look, List.find?_cons]
    by_cases hb : b = a
    · simp [hb]
    · simp [hb]
  | p :: ks, a, b, j + 1, v, w, h, hj, hf => by
    have hp : p.1 ≠ a := hf 0 p (by omega) rfl
    have h' : look ks a = some w := by simpa [look, List.find?_cons, Ne.symm hp] using h
    have ih := look_set (b := b) (v := v) h' (by simpa using hj) (fun i q hi hq => hf (i + 1) q (by omega) (by simpa using hq))
    simp only [List.set_cons_succ, look, List.find?_cons]
    by_cases hb : b = p.1
    · subst hb; simp [hp]
    · simpa [look, hb] using ih
/-- a map at a block, by its looks -/
def KM (kk : EqK) (enc : α → Value) (H : Heap) (b : Nat) (f : α → Option Value) : Prop := ∃ es c ks, H.get b = .map es c ∧ Rows enc es ks ∧ f = look ks
theorem KM.get {kk : EqK} {enc : α → Value} {H H' : Heap} {b : Nat} {f : α → Option Value} (h : KM kk enc H b f) (hg : H'.get b = H.get b) : KM kk enc H' b f := by
  obtain ⟨es, c, ks, h1, h2, h3⟩ := h
  exact ⟨es, c, ks, hg.trans h1, h2, h3⟩
theorem KM.lkp {kk : EqK} {enc : α → Value} (hk : KEnc kk enc) {S : Sys} {H : Heap} {b : Nat} {f : α → Option Value} (h : KM kk enc H b f) (a : α) (z : Value) {e : Env} {K : Kv} :
    run S (.lkp kk z false (.c (.map (some b))) (.c (enc a))) e H K = K ((f a).getD z) H := by
  obtain ⟨es, c, ks, h1, h2, rfl⟩ := h
  show oT ((kMap H (.map (some b))).bind fun p => if kKey kk (enc a) then (kFind kk (enc a) p.1 0).map _ else none) K = _
  simp only [kMap, h1, Option.bind_some, hk.key, if_true]
  rcases find_rows hk h2 a 0 with ⟨h3, h4⟩ | ⟨j, en, v, h3, h4, h5, _, _⟩
  · simp [h3, h4]
  · simp [h3, h4, h5]
theorem KM.lkp2 {kk : EqK} {enc : α → Value} (hk : KEnc kk enc) {S : Sys} {H : Heap} {b : Nat} {f : α → Option Value} (h : KM kk enc H b f) (a : α) (z : Value) {e : Env} {K : Kv} :
    run S (.lkp kk z true (.c (.map (some b))) (.c (enc a))) e H K = K (.tuple #[(f a).getD z, .bool (f a).isSome]) H := by
  obtain ⟨es, c, ks, h1, h2, rfl⟩ := h
  show oT ((kMap H (.map (some b))).bind fun p => if kKey kk (enc a) then (kFind kk (enc a) p.1 0).map _ else none) K = _
  simp only [kMap, h1, Option.bind_some, hk.key, if_true]
  rcases find_rows hk h2 a 0 with ⟨h3, h4⟩ | ⟨j, en, v, h3, h4, h5, _, _⟩
  · simp [h3, h4]
  · simp [h3, h4, h5]
theorem rows_set {enc : α → Value} {es : List MapEntry} {ks : List (α × Value)} (h : Rows enc es ks) (j : Nat) (a : α) (v : Value) (born : Nat) :
    Rows enc (es.set j { key := enc a, val := v, born := born }) (ks.set j (a, v)) := by
  simp only [Rows, List.map_set] at *
  rw [h]
theorem rows_append {enc : α → Value} {es : List MapEntry} {ks : List (α × Value)} (h : Rows enc es ks) (a : α) (v : Value) (born : Nat) :
    Rows enc (es ++ [{ key := enc a, val := v, born := born }]) (ks ++ [(a, v)]) := by
  simp only [Rows, List.map_append] at *
  rw [h]; rfl
theorem find_rows2 {kk : EqK} {enc : α → Value} (hk : KEnc kk enc) {es : List MapEntry} {ks : List (α × Value)} (h : Rows enc es ks) (a : α) (i : Nat) :
    (look ks a = none ∧ kFind kk (enc a) es i = some none) ∨ ∃ j e v, look ks a = some v ∧ kFind kk (enc a) es i = some (some (i + j, e)) ∧ e.val = v ∧ es[j]? = some e ∧ ks[j]? = some (a, v) ∧ ∀ i p, i < j → ks[i]? = some p → p.1 ≠ a := by
  induction ks generalizing es i with
  | nil =>
    cases es with
    | nil => left; exact ⟨rfl, rfl⟩
    | cons e es => simp [Rows] at h
  | cons p ks ih =>
    cases es with
    | nil => simp [Rows] at h
    | cons e es =>
      simp only [Rows, List.map_cons, List.cons.injEq, Prod.mk.injEq] at h
      obtain ⟨⟨hk1, hv1⟩, h⟩ := h
      simp only [kFind, hk1, hk.eq, Option.bind_some]
      by_cases hc : a = p.1
      · right
        refine ⟨0, e, p.2, ?_, ?_, hv1, rfl, ?_, fun i q hi => by omega⟩
        · simp [look, hc]
        · simp [hc]
        · simp [hc]
      · rcases ih (es := es) h (i + 1) with ⟨h1, h2⟩ | ⟨j, e', v, h1, h2, h3, h4, h5, h6⟩
        · left
          refine ⟨?_, ?_⟩
          · simpa [look, hc] using h1
          · simpa [hc] using h2
        · right
          refine ⟨j + 1, e', v, ?_, ?_, h3, by simpa using h4, by simpa using h5, ?_⟩
          · simpa [look, hc] using h1
          · simp [hc, h2]; omega
          · intro i q hi hq
            cases i with
            | zero => simp at hq; subst hq; exact Ne.symm hc
            | succ i => exact h6 i q (by omega) (by simpa using hq)
/-- a key more, or anew -/
theorem KM.mup {kk : EqK} {enc : α → Value} (hk : KEnc kk enc) {H : Heap} {b : Nat} {f : α → Option Value} (h : KM kk enc H b f) (a : α) (v : Value) :
    ∃ x, kMup H kk (.map (some b)) (enc a) v = some (H.put b x) ∧ ∀ H' : Heap, H'.get b = x → KM kk enc H' b fun k => if k = a then some v else f k := by
  obtain ⟨es, c, ks, h1, h2, rfl⟩ := h
  simp only [kMup, h1, hk.key, if_true]
  rcases find_rows2 hk h2 a 0 with ⟨h3, h4⟩ | ⟨j, en, w, h3, h4, h5, h6, h7, h8⟩
  · refine ⟨.map (es ++ [{ key := enc a, val := v, born := c }]) (c + 1), by simp [h4], fun H' hg => ⟨_, _, _, hg, rows_append h2 a v c, ?_⟩⟩
    funext k; rw [look_append h3]
  · refine ⟨.map (es.set j { key := enc a, val := v, born := en.born }) c, by simp [h4], fun H' hg => ⟨_, _, _, hg, rows_set h2 j a v en.born, ?_⟩⟩
    funext k; rw [look_set h3 h7 h8]
theorem KM.empty {kk : EqK} {enc : α → Value} {H : Heap} {b c : Nat} (h : H.get b = .map [] c) : KM kk enc H b fun _ => none := ⟨[], c, [], h, rfl, by funext k; rfl⟩
end
theorem enc_int : KEnc (α := Int) (.s .int) (fun a => .int .i64 a) := ⟨fun a b => by simp only [kEq, kEq1, if_true]; rfl, fun a => rfl⟩
theorem enc_int2 : KEnc (α := Int × Int) (.agg [.int, .int]) (fun a => .agg #[.int .i64 a.1, .int .i64 a.2]) := ⟨fun a b => by
  obtain ⟨a1, a2⟩ := a
  obtain ⟨b1, b2⟩ := b
  simp only [kEq, kEqL, kEq1, if_true, Option.bind_some, Prod.mk.injEq]
  by_cases h1 : a1 = b1 <;> by_cases h2 : a2 = b2 <;> simp [h1, h2], fun a => rfl⟩
theorem enc_int3 : KEnc (α := Int × Int × Int) (.agg [.int, .int, .int]) (fun a => .agg #[.int .i64 a.1, .int .i64 a.2.1, .int .i64 a.2.2]) := ⟨fun a b => by
  obtain ⟨a1, a2, a3⟩ := a
  obtain ⟨b1, b2, b3⟩ := b
  simp only [kEq, kEqL, kEq1, if_true, Option.bind_some, Prod.mk.injEq]
  by_cases h1 : a1 = b1 <;> by_cases h2 : a2 = b2 <;> by_cases h3 : a3 = b3 <;> simp [h1, h2, h3], fun a => rfl⟩
/-- texts as keys -/
theorem bytes_ext {a b : ByteArray} (h : a.toList = b.toList) : a = b := by
  have hd : ∀ s : ByteArray, s.toList = s.data.toList := by
    intro s
    have key : ∀ (n i : Nat) (r : List UInt8), s.size - i = n → ByteArray.toList.loop s i r = r.reverse ++ s.data.toList.drop i := by
      intro n
      induction n with
      | zero =>
        intro i r hn
        unfold ByteArray.toList.loop
        have h1 : ¬ i < s.size := by omega
        rw [if_neg h1, List.drop_of_length_le (by simp; exact Nat.le_of_not_lt h1)]; simp
      | succ n ih =>
        intro i r hn
        unfold ByteArray.toList.loop
        have h1 : i < s.size := by omega
        rw [if_pos h1, ih (i + 1) _ (by omega)]
        have h2 : i < s.data.toList.length := by simpa using h1
        rw [List.drop_eq_getElem_cons h2]
        have h3 : s.get! i = s.data.toList[i] := by
          simp [ByteArray.get!, getElem!_pos, h1]
        simp [h3]
    have := key s.size 0 [] (by omega)
    simpa [ByteArray.toList] using this
  rw [hd, hd] at h
  cases a; cases b
  simp only at h
  congr
  exact Array.ext' (by simpa using h)
theorem enc_str : KEnc (α := ByteArray) (.s .str) (fun a => .string a) := ⟨fun a b => by
  simp only [kEq, kEq1]
  by_cases h : a = b
  · subst h; simp
  · have : ¬ a.toList = b.toList := fun e => h (bytes_ext e)
    simp [h, this], fun a => rfl⟩
end Go.Proofs.Ytccjanieihlpcaa.K
