/- Numbers and texts: what the program's reader gives within a bound; what its writer writes. -/
import Derived.Test.YtlboioplemlneaaPCurB
import Derived.Test.YtlboioplemlneaaKLowSh3
set_option maxRecDepth 100000
set_option maxHeartbeats 2000000
set_option linter.unusedVariables false
set_option linter.unusedSimpArgs false
namespace Go.Proofs.Ytlboioplemlneaa.K
open Go Go.Proofs
/-- a number in groups that is not above another one -/
def intOut (l : Bytes) (bad : Bool) (most : Nat) : Option (Nat × Bytes) := (grpOut l bad).bind fun p => if p.1 ≤ most then some p else none
section
variable {H : Heap} {b : Nat} {l : Bytes} {bad : Bool}
theorem Int_t (h : Rd H b l bad) (most : Nat) (hm : most ≤ 4611686018427387904) : Wf S 100 [.pointer (some ⟨b, 0, none⟩), .int .i64 most] H fun v H' => v = .int .i64 (gvN (intOut l bad most)) ∧ H' = H.put b (RdB (grL (intOut l bad most)) (intOut l bad most).isNone) := by
  have hlt := h.lt
  refine w100 rfl rfl _ _ ?_
  simp [s100]
  refine (Group_t h).mono ?_
  rintro v H1 ⟨rfl, rfl⟩
  have hrd : Rd (H.put b (RdB (grL (grpOut l bad)) (grpOut l bad).isNone)) b (grL (grpOut l bad)) (grpOut l bad).isNone := rd_put hlt
  try simp
  refine (Bad_t hrd).mono ?_
  rintro v H2 ⟨rfl, rfl⟩
  cases ho : grpOut l bad with
  | none =>
    rw [ho] at hrd
    have hi : intOut l bad most = none := by simp [intOut, ho]
    simp
    refine (fail_t hrd).mono ?_
    rintro v H3 rfl
    rw [put_put, hi]
    simp [gvN, grL]
  | some p =>
    rw [ho] at hrd
    have hp64 : p.1 < 2 ^ 64 := by
      cases bad with
      | true => simp [grpOut] at ho
      | false =>
        have : pG 0 l = some (p.1, p.2) := by simpa [grpOut] using ho
        have := pG_lt this (by omega)
        simpa using this
    have hn0 : ¬ (most : Int) < 0 := by omega
    have w1 : IntKind.u64.wrap (most : Int) = most := wu64 (by omega) (by omega)
    by_cases hle : p.1 ≤ most
    · have hi : intOut l bad most = some p := by simp [intOut, ho, hle]
      have h1 : ¬ most < p.1 := by omega
      have h1' : ¬ (most : Int) < p.1 := by omega
      have w2 : IntKind.i64.wrap (p.1 : Int) = p.1 := wi (by omega) (by omega)
      simp [hn0, w1, gvN, h1, h1', w2]
      rw [hi]
      simp [gvN, grL]
    · have hi : intOut l bad most = none := by simp [intOut, ho, hle]
      have h1 : most < p.1 := by omega
      have h1' : (most : Int) < p.1 := by omega
      simp [hn0, w1, gvN, h1, h1']
      refine (fail_t hrd).mono ?_
      rintro v H3 rfl
      rw [put_put, hi]
      simp [gvN, grL]
def txtOut (l : Bytes) (bad : Bool) (most : Nat) : Option (Bytes × Bytes) := (intOut l bad most).bind fun p => if p.1 ≤ p.2.length then some (p.2.take p.1, p.2.drop p.1) else none
def txS (o : Option (Bytes × Bytes)) : Bytes := match o with | some p => p.1 | none => []
def txL (o : Option (Bytes × Bytes)) : Bytes := match o with | some p => p.2 | none => []
theorem Text_t (h : Rd H b l bad) (most : Nat) (hm : most ≤ 4611686018427387904) : Wf S 106 [.pointer (some ⟨b, 0, none⟩), .int .i64 most] H fun v H' => v = .string (ofL (txS (txtOut l bad most))) ∧ H' = H.put b (RdB (txL (txtOut l bad most)) (txtOut l bad most).isNone) := by
  have hlt := h.lt
  refine w106 rfl rfl _ _ ?_
  simp [s106]
  refine (Int_t h most hm).mono ?_
  rintro v H1 ⟨rfl, rfl⟩
  have hrd : Rd (H.put b (RdB (grL (intOut l bad most)) (intOut l bad most).isNone)) b (grL (intOut l bad most)) (intOut l bad most).isNone := rd_put hlt
  try simp
  refine (Raw_t hrd _).mono ?_
  rintro v H2 ⟨rfl, rfl⟩
  rw [put_put, Int.toNat_natCast]
  cases ho : intOut l bad most with
  | none =>
    have hi : txtOut l bad most = none := by simp [txtOut, ho]
    rw [hi]
    simp [rawOut, rawL, rawB, txS, txL, grL]
  | some p =>
    by_cases hle : p.1 ≤ p.2.length
    · have hi : txtOut l bad most = some (p.2.take p.1, p.2.drop p.1) := by simp [txtOut, ho, hle]
      rw [hi]
      have : ¬ p.2.length < p.1 := by omega
      simp [rawOut, rawL, rawB, txS, txL, grL, gvN, this]
    · have hi : txtOut l bad most = none := by simp [txtOut, ho, hle]
      rw [hi]
      have : p.2.length < p.1 := by omega
      simp [rawOut, rawL, rawB, txS, txL, grL, gvN, this]
/-- one part more, by append: all but the block that is ended stands as it stood -/
theorem Acc.app2 {t z N M n bytes : Nat} {H : Heap} {v : Value} {cs new : List Value} (h : Acc t z N M H v n cs) (hz : new.length = z) (hn : (n + 1) * bytes ≤ roomMax ∧ n + 1 ≤ roomMax) :
    ∃ v' H', kApp (H.push (.cells new t true)) t z bytes v 1 new = some (v', H') ∧ Acc t z H.next H'.next H' v' (n + 1) (cs ++ new) ∧ H.next < H'.next ∧ ∀ k, k < H.next → (∀ b m c, v = .slice (some b) m c → b.block ≠ k) → H'.get k = H.get k := by
  rcases h with ⟨rfl, rfl, rfl⟩ | ⟨b, c, h1, h2, rfl, hc, h3, h4⟩
  · have h5 : bytes ≤ roomMax ∧ 1 ≤ roomMax := by simpa using hn
    refine ⟨_, _, by simp [kApp, h5.1, h5.2]; exact ⟨rfl, rfl⟩, ?_, by simp; omega, fun k hk _ => ?_⟩
    · refine .inr ⟨H.next + 1, capx, by omega, by simp, rfl, .inl rfl, ?_, by simp [hz]⟩
      simp
    · rw [get_old (by simp; omega), get_old hk]
  · have hb := lt_cells h3
    have hrd : rd cs 0 (n * z) = some cs := by
      unfold rd; rw [if_pos (by omega), List.drop_zero, List.take_of_length_le (by omega)]
    have hg : (H.push (.cells new t true)).get b = .cells cs t true := by rw [get_old hb]; exact h3
    rcases hc with rfl | rfl
    · refine ⟨_, _, by simp only [kApp, hg, hn, and_self, if_true, Nat.succ_ne_zero, if_false, hrd, Option.map_some, Nat.one_ne_zero]; exact rfl, ?_, ?_, ?_⟩
      · refine .inr ⟨(H.push (.cells new t true)).next, capx, by simp, by simp [next_put], rfl, .inl rfl, ?_, by simp [h4, hz, Nat.succ_mul]⟩
        have := get_last (H := (H.push (.cells new t true)).put b .dead) (b := .cells (cs ++ new) t true)
        rw [next_put] at this; exact this
      · simp [next_put]; omega
      · intro k hk hkN
        have := hkN _ _ _ rfl
        simp only at this
        rw [get_old (by rw [next_put]; simp; omega), get_put_ne (by omega), get_old hk]
    · have hx : ¬ c = capx := by
        have : roomMax < capx := by decide
        omega
      have hx2 : ¬ c + 1 ≤ c := by omega
      refine ⟨_, _, by simp only [kApp, hg, hn, and_self, if_true, hx, hx2, if_false, hrd, Option.map_some]; exact rfl, ?_, ?_, ?_⟩
      · refine .inr ⟨(H.push (.cells new t true)).next, capx, by simp, by simp, rfl, .inl rfl, get_last, by simp [h4, hz, Nat.succ_mul]⟩
      · simp; omega
      · intro k hk hkN
        rw [get_old (by simp; omega), get_old hk]
theorem Acc.appN2 {t z N M n m bytes : Nat} {H : Heap} {v : Value} {cs new : List Value} (h : Acc t z N M H v n cs) (hm : 0 < m) (hz : new.length = m * z) (hn : (n + m) * bytes ≤ roomMax ∧ n + m ≤ roomMax) :
    ∃ v' H', kApp H t z bytes v m new = some (v', H') ∧ Acc t z H.next H'.next H' v' (n + m) (cs ++ new) ∧ H.next < H'.next ∧ ∀ k, k < H.next → (∀ b m c, v = .slice (some b) m c → b.block ≠ k) → H'.get k = H.get k := by
  have hm0 : ¬ m = 0 := by omega
  rcases h with ⟨rfl, rfl, rfl⟩ | ⟨b, c, h1, h2, rfl, hc, h3, h4⟩
  · have h5 : m * bytes ≤ roomMax ∧ m ≤ roomMax := by simpa using hn
    refine ⟨_, _, by simp [kApp, h5.1, h5.2, hm0]; exact ⟨rfl, rfl⟩, ?_, by simp, fun k hk _ => get_old hk⟩
    refine .inr ⟨H.next, capx, by omega, by simp, by simp, .inl rfl, ?_, by simp [hz]⟩
    simp
  · have hb := lt_cells h3
    have hrd : rd cs 0 (n * z) = some cs := by
      unfold rd; rw [if_pos (by omega), List.drop_zero, List.take_of_length_le (by omega)]
    rcases hc with rfl | rfl
    · refine ⟨_, _, by simp only [kApp, h3, hn, and_self, if_true, hm0, if_false, hrd, Option.map_some]; exact rfl, ?_, ?_, ?_⟩
      · refine .inr ⟨H.next, capx, by omega, by simp [next_put], rfl, .inl rfl, ?_, by simp [h4, hz, Nat.add_mul]⟩
        have := get_last (H := H.put b .dead) (b := .cells (cs ++ new) t true)
        rw [next_put] at this; exact this
      · simp [next_put]
      · intro k hk hkN
        have := hkN _ _ _ rfl
        simp only at this
        rw [get_old (by rw [next_put]; omega), get_put_ne (by omega)]
    · have hx : ¬ c = capx := by
        have : roomMax < capx := by decide
        omega
      have hx2 : ¬ c + m ≤ c := by omega
      refine ⟨_, _, by simp only [kApp, h3, hn, and_self, if_true, hx, hx2, if_false, hrd, Option.map_some]; exact rfl, ?_, ?_, ?_⟩
      · refine .inr ⟨H.next, capx, by omega, by simp, rfl, .inl rfl, get_last, by simp [h4, hz, Nat.add_mul]⟩
      · simp
      · intro k hk hkN
        rw [get_old hk]
/-- a writer at w that holds these bytes, apart from the blocks Q -/
def WrC (H : Heap) (w : Nat) (l : Bytes) (Q : Nat → Prop) : Prop := ∃ sv, H.get w = .cells [sv] 74 true ∧ Acc 5 1 (w + 1) H.next H sv l.length (bvs l) ∧ ∀ k, Q k → k < H.next ∧ k ≠ w ∧ ∀ b m c, sv = .slice (some b) m c → b.block ≠ k
/-- blocks of these stand as they stood -/
def KQ (Q : Nat → Prop) (H H' : Heap) : Prop := H.next ≤ H'.next ∧ ∀ k, Q k → H'.get k = H.get k
theorem KQ.refl (Q : Nat → Prop) (H : Heap) : KQ Q H H := ⟨Nat.le_refl _, fun _ _ => rfl⟩
theorem KQ.trans {Q : Nat → Prop} {A B C : Heap} (h : KQ Q A B) (h' : KQ Q B C) : KQ Q A C := ⟨Nat.le_trans h.1 h'.1, fun k hk => (h'.2 k hk).trans (h.2 k hk)⟩
theorem WrC.new {H : Heap} : WrC (H.push (.cells [.slice none 0 0] 74 true)) H.next [] (fun k => k < H.next) := ⟨_, get_last, by simpa [bvs] using Acc.nil, fun k hk => ⟨by simp; omega, by omega, fun b m c h => by simp at h⟩⟩
theorem WrC.lt {H : Heap} {w : Nat} {l : Bytes} {Q : Nat → Prop} (h : WrC H w l Q) : w < H.next := by obtain ⟨sv, hg, _⟩ := h; exact lt_cells hg
/-- a heap that goes on -/
theorem WrC.kp {H H' : Heap} {w : Nat} {l : Bytes} {Q : Nat → Prop} (h : WrC H w l Q) (hk : Kp H.next H H') : WrC H' w l Q := by
  obtain ⟨sv, hg, hA, hQ⟩ := h
  exact ⟨sv, (hk.2 w (lt_cells hg)).trans hg, (hA.kp fun b _ hb => hk.2 b hb).mono hk.1, fun k h => ⟨by have := (hQ k h).1; have := hk.1; omega, (hQ k h).2⟩⟩
/-- other blocks kept apart: fewer, or such as came later -/
theorem WrC.more {H : Heap} {w : Nat} {l : Bytes} {Q Q' : Nat → Prop} (h : WrC H w l Q) (hq : ∀ k, Q' k → Q k) : WrC H w l Q' := by
  obtain ⟨sv, hg, hA, hQ⟩ := h
  exact ⟨sv, hg, hA, fun k h => hQ k (hq k h)⟩
theorem WrC.with {H H' : Heap} {w q : Nat} {l : Bytes} {Q : Nat → Prop} (h : WrC H w l Q) (hk : Kp H.next H H') (h1 : H.next ≤ q) (h2 : q < H'.next) : WrC H' w l (fun k => Q k ∨ k = q) := by
  obtain ⟨sv, hg, hA, hQ⟩ := h
  have hlt := lt_cells hg
  refine ⟨sv, (hk.2 w hlt).trans hg, (hA.kp fun b _ hb => hk.2 b hb).mono hk.1, fun k h => ?_⟩
  rcases h with h | rfl
  · exact ⟨by have := (hQ k h).1; have := hk.1; omega, (hQ k h).2⟩
  · refine ⟨h2, by omega, fun b m c e => ?_⟩
    rcases hA with ⟨_, _, rfl⟩ | ⟨b', c', r1, r2, rfl, _⟩
    · cases e
    · simp only [Value.slice.injEq, Option.some.injEq] at e
      obtain ⟨rfl, _, _⟩ := e
      simp only; omega
theorem oneC_acc {t z N M n : Nat} {H : Heap} {v : Value} {cs : List Value} (h : Acc t z N M H v n cs) : oneC v = true := by
  obtain ⟨a, c, rfl, _⟩ := h.len
  rfl
/-- what was gathered, stored -/
theorem WrC.store {H H1 : Heap} {w : Nat} {l l' : Bytes} {Q : Nat → Prop} {sv v' : Value} (hg : H.get w = .cells [sv] 74 true) (hQ : ∀ k, Q k → k < H.next ∧ k ≠ w ∧ ∀ b m c, sv = .slice (some b) m c → b.block ≠ k) (hA0 : Acc 5 1 (w + 1) H.next H sv l.length (bvs l))
    (hA : Acc 5 1 H.next H1.next H1 v' l'.length (bvs l')) (hn : H.next < H1.next) (hk : ∀ k, k < H.next → (∀ b m c, sv = .slice (some b) m c → b.block ≠ k) → H1.get k = H.get k) :
    ∃ H2, kSt H1 (.pointer (some ⟨w, 0, none⟩)) v' = some H2 ∧ KQ Q H H2 ∧ WrC H2 w l' Q := by
  have hlt := lt_cells hg
  have hg1 : H1.get w = .cells [sv] 74 true := (hk w hlt (fun b m c e => by
    rcases hA0 with ⟨_, _, rfl⟩ | ⟨b', c', r1, r2, rfl, _⟩
    · cases e
    · simp only [Value.slice.injEq, Option.some.injEq] at e
      obtain ⟨rfl, _, _⟩ := e
      simp only; omega)).trans hg
  have ho := oneC_acc hA
  refine ⟨H1.put w (.cells [v'] 74 true), by simp [kSt, hg1, ho], ⟨by rw [next_put]; omega, fun k hk' => ?_⟩, v', get_put_eq (by omega), ?_, fun k hk' => ?_⟩
  · obtain ⟨q1, q2, q3⟩ := hQ k hk'
    rw [get_put_ne q2]; exact hk k q1 q3
  · rw [next_put]
    have := hA.kp (H' := H1.put w (.cells [v'] 74 true)) fun k hk _ => get_put_ne (by omega)
    rcases this with h | ⟨b', c', r1, r2, r3⟩
    · exact .inl h
    · exact .inr ⟨b', c', by omega, r2, r3⟩
  · obtain ⟨q1, q2, q3⟩ := hQ k hk'
    rw [next_put]
    refine ⟨by omega, q2, fun b m c e => ?_⟩
    rcases hA with ⟨_, _, rfl⟩ | ⟨b', c', r1, r2, rfl, _⟩
    · cases e
    · simp only [Value.slice.injEq, Option.some.injEq] at e
      obtain ⟨rfl, _, _⟩ := e
      simp only; omega
/-- one byte more, by append, stored -/
theorem WrC.one {w : Nat} {Q : Nat → Prop} (h : WrC H w l Q) (hl : l.length ≤ 10000000) {x : Nat} (hx : x < 256) : ∃ sv v' H1 H2, H.get w = .cells [sv] 74 true ∧ kApp (H.push (.cells [.int .u8 x] 5 true)) 5 1 1 sv 1 [.int .u8 x] = some (v', H1) ∧
    kSt H1 (.pointer (some ⟨w, 0, none⟩)) v' = some H2 ∧ KQ Q H H2 ∧ WrC H2 w (l ++ [UInt8.ofNat x]) Q := by
  obtain ⟨sv, hg, hA, hQ⟩ := h
  have hn : (UInt8.ofNat x).toNat = x := by simp; omega
  obtain ⟨v', H1, e1, hA1, hn1, hk⟩ := hA.app2 (bytes := 1) (new := [.int .u8 x]) rfl (by unfold roomMax; omega)
  obtain ⟨H2, q1, q2, q3⟩ := WrC.store (l' := l ++ [UInt8.ofNat x]) hg hQ hA (by simpa [bvs, bv, hn] using hA1) hn1 hk
  exact ⟨sv, v', H1, H2, hg, e1, q1, q2, q3⟩
theorem Fixed1w_t {w : Nat} {Q : Nat → Prop} (h : WrC H w l Q) (hl : l.length ≤ 1000000) (v : Nat) (hv : v < 256) : Wf S 52 [.pointer (some ⟨w, 0, none⟩), .int .u64 v, .int .i64 1] H fun r H' => r = .pointer (some ⟨w, 0, none⟩) ∧ KQ Q H H' ∧ WrC H' w (l ++ [UInt8.ofNat v]) Q := by
  refine w52 rfl rfl _ _ _ ?_
  simp [s52, kEq]
  refine (size_t H 1).mono ?_
  rintro r H1 ⟨rfl, rfl⟩
  obtain ⟨sv, v', H2, H3, e1, e2, e3, e4, e5⟩ := h.one (by omega) hv
  have w1 : IntKind.u8.wrap (v : Int) = v := wu8' (by omega) (by omega)
  have w3 : IntKind.i64.wrap 1 = 1 := by decide
  have hmm : (min (max 1 0) 8 : Int) = 1 := by decide
  try simp
  rw [hmm]
  refine u52_0 S ?_
  simp [s52_0, addOff, e1, w1, kFill, evPs, isTup, cellsL, wr, kRow, rd, e2, e3, kb_shr, w3]
  refine u52_0 S ?_
  simp [s52_0]
  exact ⟨e4, e5⟩
theorem or128 : ∀ y : Fin 256, (y.val ||| 128) = y.val % 128 + 128 := by decide
structure GwI (H0 : Heap) (w : Nat) (l : Bytes) (Q : Nat → Prop) (v0 : Nat) (d : Nat) (e : Fe) (H : Heap) (v : Nat) : Prop where
  h1 : d = v
  h2 : v < 18446744073709551616
  kp : KQ Q H0 H
  p : ∃ p, WrC H w (l ++ p) Q ∧ p ++ grp v = grp v0
  e0 : e 0 = .pointer (some ⟨w, 0, none⟩)
  e1 : e 1 = .int .u64 (v : Int)
theorem Groupw_t {w : Nat} {Q : Nat → Prop} (h : WrC H w l Q) (hl : l.length ≤ 1000000) (v : Nat) (hv : v < 18446744073709551616) : Wf S 53 [.pointer (some ⟨w, 0, none⟩), .int .u64 v] H fun r H' => r = .pointer (some ⟨w, 0, none⟩) ∧ KQ Q H H' ∧ WrC H' w (l ++ grp v) Q := by
  refine w53 rfl rfl _ _ ?_
  simp [s53, kEq]
  refine l53_0 S (fun d e H' => ∃ u, GwI H w l Q v d e H' u) v ⟨v, rfl, hv, KQ.refl _ _, ⟨[], by simpa using h, rfl⟩, by simp, by simp⟩ ?_
  rintro d e H' ⟨u, rfl, hu, hk, ⟨p, hw, hp⟩, e0, e1⟩
  have hgl := grp_len10 (v := v) (by omega)
  have hll := congrArg List.length hp
  have hgp := grp_len_pos d
  rw [List.length_append] at hll
  by_cases h3 : 127 < d
  · have h3' : (127 : Int) < d := by omega
    obtain ⟨q, hq⟩ : ∃ q, q = d % 256 := ⟨_, rfl⟩
    obtain ⟨x, hx⟩ : ∃ x, x = d % 128 + 128 := ⟨_, rfl⟩
    obtain ⟨y, hy⟩ : ∃ y, y = d / 128 := ⟨_, rfl⟩
    have w1 : IntKind.u8.wrap (d : Int) = (q : Int) := by simp [IntKind.wrap, IntKind.signed, IntKind.bits]; omega
    have o1 : kBin .or (.int .u8 (q : Int)) (.int .u8 128) = some (.int .u8 (x : Int)) := by
      have h := kb_orN (k := .u8) (a := q) (b := 128) (by show q < 2 ^ 8; omega) (by decide)
      have h2 := or128 ⟨q, by omega⟩
      simp only at h2
      rw [h2, wu8' (by omega) (by omega)] at h
      have : q % 128 + 128 = x := by omega
      rw [this] at h
      exact h
    have o2 : kBin .shr (.int .u64 (d : Int)) (.int .u64 7) = some (.int .u64 (y : Int)) := by
      rw [kb_shr, if_neg (by omega)]
      have hm : min (7 : Int).toNat IntKind.u64.bits = 7 := by decide
      rw [hm, Int.fdiv_eq_ediv_of_nonneg _ (by decide)]
      congr 2; omega
    obtain ⟨sv, v', H2, H3, a1, a2, a3, a4, a5⟩ := hw.one (by simp; omega) (x := x) (by omega)
    simp [s53_0, e0, e1, h3', addOff, a1, w1, o1, kFill, evPs, isTup, cellsL, wr, kRow, rd, a2, a3, o2]
    refine ⟨y, by omega, y, rfl, by omega, hk.trans a4, ⟨p ++ [UInt8.ofNat x], by simpa using a5, ?_⟩, by simp [e0], by simp⟩
    rw [← hp, grp_high (v := d) (by omega), ← hx, ← hy]; simp
  · have h3' : ¬ (127 : Int) < d := by omega
    have w1 : IntKind.u8.wrap (d : Int) = (d : Int) := wu8' (by omega) (by omega)
    obtain ⟨sv, v', H2, H3, a1, a2, a3, a4, a5⟩ := hw.one (by simp; omega) (x := d) (by omega)
    simp [s53_0, e0, e1, h3', addOff, a1, w1, kFill, evPs, isTup, cellsL, wr, kRow, rd, a2, a3]
    refine ⟨hk.trans a4, ?_⟩
    rw [← hp, grp_low (v := d) (by omega)]
    simpa using a5
theorem Raww_t {w : Nat} {Q : Nat → Prop} (h : WrC H w l Q) (hl : l.length ≤ 1000000) (s : Bytes) (hs : s.length ≤ 1000000) : Wf S 97 [.pointer (some ⟨w, 0, none⟩), .string (ofL s)] H fun r H' => r = .pointer (some ⟨w, 0, none⟩) ∧ KQ Q H H' ∧ WrC H' w (l ++ s) Q := by
  refine w97 rfl rfl _ _ ?_
  obtain ⟨sv, hg, hA, hQ⟩ := h
  by_cases h0 : s.length = 0
  · have : s = [] := List.eq_nil_of_length_eq_zero h0
    subst this
    have hap : kApp H 5 1 1 sv (ofL []).size (byteVals (ofL [])) = some (sv, H) := by
      rcases hA with ⟨h1, h2, rfl⟩ | ⟨b, c, h1, h2, rfl, hc, h3, h4⟩
      · simp [kApp, ofL_size]
      · have : l.length ≤ roomMax := by unfold roomMax; omega
        rcases hc with rfl | rfl
        · simp [kApp, ofL_size, h3, this]
        · have hx : ¬ l.length = capx := by
            have : roomMax < capx := by decide
            omega
          simp [kApp, ofL_size, h3, this, hx]
    have ho := oneC_acc hA
    have hst : kSt H (.pointer (some ⟨w, 0, none⟩)) sv = some (H.put w (.cells [sv] 74 true)) := by simp [kSt, hg, ho]
    have hps := put_same hg
    rw [hps] at hst
    simp [s97, kEq, addOff, hg, hap, hst]
    exact ⟨KQ.refl _ _, sv, hg, hA, hQ⟩
  · obtain ⟨v', H1, e1, hA1, hn1, hk⟩ := hA.appN2 (m := s.length) (bytes := 1) (new := bvs s) (by omega) (by rw [bvs_len]; omega) (by unfold roomMax; omega)
    obtain ⟨H2, q1, q2, q3⟩ := WrC.store (l' := l ++ s) hg hQ hA (by simpa [bvs] using hA1) hn1 hk
    have hap : kApp H 5 1 1 sv (ofL s).size (byteVals (ofL s)) = some (v', H1) := by rw [ofL_size, byteVals_ofL]; exact e1
    simp [s97, kEq, addOff, hg, hap, q1]
    exact ⟨q2, q3⟩
theorem Textw_t {w : Nat} {Q : Nat → Prop} (h : WrC H w l Q) (hl : l.length ≤ 900000) (s : Bytes) (hs : s.length ≤ 1000000) : Wf S 54 [.pointer (some ⟨w, 0, none⟩), .string (ofL s)] H fun r H' => r = .pointer (some ⟨w, 0, none⟩) ∧ KQ Q H H' ∧ WrC H' w (l ++ txt s) Q := by
  refine w54 rfl rfl _ _ ?_
  have w1 : IntKind.u64.wrap (s.length : Int) = (s.length : Int) := wu64 (by omega) (by omega)
  simp [s54, ofL_size, w1]
  refine (Groupw_t h (by omega) s.length (by omega)).mono ?_
  rintro r H1 ⟨rfl, hk1, h1⟩
  have hgl := grp_len10 (v := s.length) (by omega)
  try simp
  refine (Raww_t h1 (by simp; omega) s hs).mono ?_
  rintro r H2 ⟨rfl, hk2, h2⟩
  exact ⟨rfl, hk1.trans hk2, by simpa [txt] using h2⟩
theorem Stringw_t {w : Nat} {Q : Nat → Prop} (h : WrC H w l Q) : Wf S 55 [.pointer (some ⟨w, 0, none⟩)] H fun r H' => H' = H ∧ r = .string (ofL l) := by
  refine w55 rfl rfl _ ?_
  obtain ⟨sv, hg, hA, hQ⟩ := h
  obtain ⟨a, c, rfl, hrow⟩ := hA.row
  have hb := fun K => s_b2s (S := S) (e := []) (K := K) (c := c) hrow
  simp [s55, kEq, addOff, hg, hb]
end
end Go.Proofs.Ytlboioplemlneaa.K
