/- A reader of codes, made ready of lengths. -/
import Derived.Test.YtlboioplemlneaaPBitsG
set_option maxRecDepth 100000
set_option maxHeartbeats 2000000
set_option linter.unusedVariables false
set_option linter.unusedSimpArgs false
namespace Go.Proofs.Ytlboioplemlneaa.K
open Go Go.Proofs
/-- how many of the first s symbols are as long as n -/
def cntS (l : List Int) (n : Nat) : Nat → Nat
  | 0 => 0
  | s + 1 => cntS l n s + if at0 l s = n then 1 else 0
/-- the symbols that are shorter than n, in order, and of those as long as n the first s -/
def ordAt (l : List Int) : Nat → Nat → Bytes
  | 0, _ => []
  | n + 1, 0 => ordAt l n l.length
  | n + 1, s + 1 => ordAt l (n + 1) s ++ if at0 l s = ((n + 1 : Nat) : Int) then [UInt8.ofNat s] else []
theorem codeAt_one (l : List Int) : codeAt l 1 0 = 0 := by simp [codeAt]
theorem cntS_le (l : List Int) (n : Nat) : ∀ s, cntS l n s ≤ s
  | 0 => by simp [cntS]
  | s + 1 => by have := cntS_le l n s; simp only [cntS]; split <;> omega
theorem codeAt_cnt (l : List Int) (n : Nat) : ∀ s, codeAt l (n + 1) s = codeAt l (n + 1) 0 + cntS l (n + 1) s
  | 0 => by simp [cntS]
  | s + 1 => by
    have := codeAt_cnt l n s
    simp only [codeAt, cntS] at *
    rw [this]
    have e : ((n + 1 : Nat) : Int) = (n : Int) + 1 := by omega
    rw [e]
    split <;> omega
theorem ordAt_len (l : List Int) (n : Nat) : ∀ s, (ordAt l (n + 1) s).length = (ordAt l (n + 1) 0).length + cntS l (n + 1) s
  | 0 => by simp [cntS]
  | s + 1 => by
    have := ordAt_len l n s
    simp only [ordAt, cntS, List.length_append] at *
    rw [this]
    split <;> simp <;> omega
/-- cells of a reader of codes that is being made, at N, with its symbols behind it -/
structure Rc (H0 : Heap) (N : Nat) (F C St : Nat → Nat) (o : Bytes) (H : Heap) (cs : List Value) (ov : Value) : Prop where
  kp : Kp N H0 H
  hx : H.get N = .cells cs 137 true
  len : cs.length = 40
  f : ∀ n, n ≤ 12 → cs[n]? = some (.int .i64 (F n))
  c : ∀ n, n ≤ 12 → cs[13 + n]? = some (.int .i64 (C n))
  s : ∀ n, n ≤ 12 → cs[26 + n]? = some (.int .i64 (St n))
  od : cs[39]? = some ov
  a : Acc 5 1 (N + 1) H.next H ov o.length (bvs o)
def updN (F : Nat → Nat) (n v : Nat) (i : Nat) : Nat := if i = n then v else F i
section
variable {H0 H : Heap} {N : Nat} {F C St : Nat → Nat} {o : Bytes} {cs : List Value} {ov : Value}
theorem Rc.lt (h : Rc H0 N F C St o H cs ov) : N < H.next := lt_cells h.hx
theorem Rc.st (h : Rc H0 N F C St o H cs ov) {j : Nat} (hj : j < 40) (v : Int) : kSt H (.pointer (some ⟨N, j, none⟩)) (.int .i64 v) = some (H.put N (.cells (cs.set j (.int .i64 v)) 137 true)) := by
  simp [kSt, h.hx, h.len, hj, oneC]
theorem Rc.upd (h : Rc H0 N F C St o H cs ov) {j : Nat} {v : Value} {F' C' St' : Nat → Nat}
    (hf : ∀ n, n ≤ 12 → (cs.set j v)[n]? = some (.int .i64 (F' n))) (hc : ∀ n, n ≤ 12 → (cs.set j v)[13 + n]? = some (.int .i64 (C' n))) (hs : ∀ n, n ≤ 12 → (cs.set j v)[26 + n]? = some (.int .i64 (St' n))) (hj : j < 39) :
    Rc H0 N F' C' St' o (H.put N (.cells (cs.set j v) 137 true)) (cs.set j v) ov :=
  ⟨h.kp.trans (Kp.put (Nat.le_refl _)), get_put_eq h.lt, by simp [h.len], hf, hc, hs, by rw [List.getElem?_set_ne (by omega)]; exact h.od, by
    rw [next_put]; exact h.a.kp fun b hb _ => get_put_ne (by omega)⟩
theorem Rc.setF (h : Rc H0 N F C St o H cs ov) {n : Nat} (hn : n ≤ 12) (v : Nat) : Rc H0 N (updN F n v) C St o (H.put N (.cells (cs.set n (.int .i64 v)) 137 true)) (cs.set n (.int .i64 v)) ov :=
  h.upd (fun m hm => by
    unfold updN
    by_cases e : m = n
    · subst e; rw [if_pos rfl, List.getElem?_set_self (by rw [h.len]; omega)]
    · rw [if_neg e, List.getElem?_set_ne (by omega)]; exact h.f m hm)
    (fun m hm => by rw [List.getElem?_set_ne (by omega)]; exact h.c m hm) (fun m hm => by rw [List.getElem?_set_ne (by omega)]; exact h.s m hm) (by omega)
theorem Rc.setC (h : Rc H0 N F C St o H cs ov) {n : Nat} (hn : n ≤ 12) (v : Nat) : Rc H0 N F (updN C n v) St o (H.put N (.cells (cs.set (13 + n) (.int .i64 v)) 137 true)) (cs.set (13 + n) (.int .i64 v)) ov :=
  h.upd (fun m hm => by rw [List.getElem?_set_ne (by omega)]; exact h.f m hm) (fun m hm => by
    unfold updN
    by_cases e : m = n
    · subst e; rw [if_pos rfl, List.getElem?_set_self (by rw [h.len]; omega)]
    · rw [if_neg e, List.getElem?_set_ne (by omega)]; exact h.c m hm)
    (fun m hm => by rw [List.getElem?_set_ne (by omega)]; exact h.s m hm) (by omega)
theorem Rc.setS (h : Rc H0 N F C St o H cs ov) {n : Nat} (hn : n ≤ 12) (v : Nat) : Rc H0 N F C (updN St n v) o (H.put N (.cells (cs.set (26 + n) (.int .i64 v)) 137 true)) (cs.set (26 + n) (.int .i64 v)) ov :=
  h.upd (fun m hm => by rw [List.getElem?_set_ne (by omega)]; exact h.f m hm) (fun m hm => by rw [List.getElem?_set_ne (by omega)]; exact h.c m hm) (fun m hm => by
    unfold updN
    by_cases e : m = n
    · subst e; rw [if_pos rfl, List.getElem?_set_self (by rw [h.len]; omega)]
    · rw [if_neg e, List.getElem?_set_ne (by omega)]; exact h.s m hm) (by omega)
/-- one symbol more -/
theorem Rc.one (h : Rc H0 N F C St o H cs ov) (x : UInt8) (hl : o.length ≤ 100000) : ∃ v' H1 H2, kApp (H.push (.cells [bv x] 5 true)) 5 1 1 ov 1 [bv x] = some (v', H1) ∧ H1.get N = .cells cs 137 true ∧
    kSt H1 (.pointer (some ⟨N, 39, none⟩)) v' = some H2 ∧ Rc H0 N F C St (o ++ [x]) H2 (cs.set 39 v') v' := by
  have hlt := h.lt
  obtain ⟨v', H1, e1, hA, hn, hk⟩ := h.a.app (bytes := 1) (new := [bv x]) (by omega) (Nat.le_refl _) rfl (by unfold roomMax; omega)
  have hg : H1.get N = .cells cs 137 true := (hk N hlt (.inl (by omega))).trans h.hx
  have ho : oneC v' = true := by
    obtain ⟨a, c, rfl, _⟩ := hA.len
    rfl
  refine ⟨v', H1, H1.put N (.cells (cs.set 39 v') 137 true), e1, hg, by simp [kSt, hg, h.len, ho], ?_⟩
  refine ⟨h.kp.trans (Kp.trans ⟨by omega, fun k hk' => hk k (by omega) (.inl (by omega))⟩ (Kp.put (Nat.le_refl _))), get_put_eq (by omega), by simp [h.len], ?_, ?_, ?_, ?_, ?_⟩
  · intro n hn; rw [List.getElem?_set_ne (by omega)]; exact h.f n hn
  · intro n hn; rw [List.getElem?_set_ne (by omega)]; exact h.c n hn
  · intro n hn; rw [List.getElem?_set_ne (by omega)]; exact h.s n hn
  · rw [List.getElem?_set_self (by rw [h.len]; omega)]
  · rw [next_put]
    have := hA.kp (H' := H1.put N (.cells (cs.set 39 v') 137 true)) fun b hb _ => get_put_ne (by omega)
    simpa [bvs] using this
structure RdI (H0 : Heap) (a : Option Addr) (c : Nat) (l : List Int) (F St : Nat → Nat) (n s : Nat) (e : Fe) (H : Heap) : Prop where
  r : ∃ cs ov, Rc H0 H0.next F (fun i => if 1 ≤ i ∧ i < n then cntS l i l.length else if i = n then cntS l n s else 0) St (ordAt l n s) H cs ov
  e0 : e 0 = .slice a l.length c
  e3 : e 3 = .pointer (some ⟨H0.next, 0, none⟩)
  e4 : e 4 = .int .i64 (codeAt l n 0)
  e5 : e 5 = .int .i64 n
end
section
variable {H : Heap} {a : Option Addr} {c : Nat} {l : List Int}
theorem ordAt_succ {l : List Int} {n : Nat} (h : 1 ≤ n) (s : Nat) : ordAt l n (s + 1) = ordAt l n s ++ if at0 l s = n then [UInt8.ofNat s] else [] := by
  obtain ⟨m, rfl⟩ : ∃ m, n = m + 1 := ⟨n - 1, by omega⟩
  simp only [ordAt]
theorem ordAt_le {l : List Int} : ∀ n, (ordAt l (n + 1) 0).length + cntS l (n + 1) l.length = (ordAt l (n + 2) 0).length := fun n => by
  rw [← ordAt_len l n l.length]; simp [ordAt]
structure RdJ (H0 : Heap) (a : Option Addr) (c : Nat) (l : List Int) (F St : Nat → Nat) (n d s : Nat) (e : Fe) (H : Heap) : Prop where
  h1 : s ≤ l.length
  h2 : d = l.length - s
  i : RdI H0 a c l F St n s e H
  e30 : e 30 = .slice a l.length c
  e31 : e 31 = .int .i64 l.length
  e32 : e 32 = .int .i64 s
theorem readyIn_t {H0 : Heap} {F St : Nat → Nat} {n : Nat} {e : Fe} {H : Heap} {Q : Kx} (hl : Iv H0 a l) (hlen : l.length ≤ 256) (hord : ∀ s, s ≤ l.length → (ordAt l n s).length ≤ 100000) (h1 : 1 ≤ n) (h2 : n ≤ 11)
    (hc : RdI H0 a c l F St n 0 e H) (e30 : e 30 = .slice a l.length c) (e31 : e 31 = .int .i64 l.length) (e32 : e 32 = .int .i64 0)
    (hQ : ∀ e' H', RdI H0 a c l F St n l.length e' H' → Q (.exit 2) e' H') : WL S b62_1 e H Q := by
  refine l62_1 S (fun d e H => ∃ s : Nat, RdJ H0 a c l F St n d s e H) l.length ⟨0, by omega, by omega, hc, e30, e31, e32⟩ ?_
  rintro d e H ⟨s, hs, rfl, ⟨⟨cs, ov, hr⟩, e0, e3, e4, e5⟩, e30, e31, e32⟩
  by_cases h3 : s < l.length
  · obtain ⟨b, o, cs0, rw, rfl, hg0, hcs⟩ := hl (by omega)
    have hg := (hr.kp.2 b (lt_cells hg0)).trans hg0
    obtain ⟨x, hx⟩ : ∃ x, l[s]? = some x := ⟨_, List.getElem?_eq_getElem h3⟩
    have hcx := hcs s x hx
    have hax := at0_of hx
    have hw : IntKind.i64.wrap ((s : Int) + 1) = (s : Int) + 1 := wi (by omega) (by omega)
    have hos : ordAt l n (s + 1) = ordAt l n s ++ if at0 l s = n then [UInt8.ofNat s] else [] := ordAt_succ h1 s
    have hcs' : ∀ i, (if 1 ≤ i ∧ i < n then cntS l i l.length else if i = n then cntS l n (s + 1) else 0) = updN (fun i => if 1 ≤ i ∧ i < n then cntS l i l.length else if i = n then cntS l n s else 0) n (cntS l n (s + 1)) i := by
      intro i
      unfold updN
      by_cases e : i = n
      · subst e; simp
      · simp [e]
    by_cases g : x = n
    · have hu : IntKind.u8.wrap (s : Int) = ((UInt8.ofNat s).toNat : Int) := by
        have h1 : s % 256 = s := Nat.mod_eq_of_lt (by omega)
        have h2 : (UInt8.ofNat s).toNat = s := by simp [h1]
        rw [h2]; simp [IntKind.wrap, IntKind.signed, IntKind.bits]; omega
      obtain ⟨v', H1, H2, a1, a2, a3, a4⟩ := hr.one (UInt8.ofNat s) (hord s hs)
      have hcn := a4.c n (by omega)
      have hle := cntS_le l n s
      simp at hcn
      have hr2 := a4.setC (n := n) (by omega) (cntS l n (s + 1))
      have hst := a4.st (j := 13 + n) (by omega) ((cntS l n (s + 1) : Nat) : Int)
      have hgx := a4.hx
      have hc1 : cntS l n (s + 1) = cntS l n s + 1 := by simp [cntS, hax, g]
      have w2 : IntKind.i64.wrap ((cntS l n s : Int) + 1) = ((cntS l n (s + 1) : Nat) : Int) := by rw [wi (by omega) (by omega)]; omega
      have m13 : n < 13 := by omega
      have m13' : (n : Int) < 13 := by omega
      have hxx := hr.hx
      have hod := hr.od
      obtain ⟨HH, hHH⟩ : ∃ HH, HH = H2.put H0.next (.cells ((cs.set 39 v').set (13 + n) (.int .i64 ((cntS l n (s + 1) : Nat) : Int))) 137 true) := ⟨_, rfl⟩
      rw [← hHH] at hst hr2
      obtain ⟨u, hu'⟩ : ∃ u : UInt8, u = UInt8.ofNat s := ⟨_, rfl⟩
      rw [← hu'] at hu a1 a4 hr2
      unfold bv at a1
      obtain ⟨q, hq⟩ : ∃ q, q = u.toNat := ⟨_, rfl⟩
      rw [← hq] at hu a1
      simp only [s62_1]
      simp [e0, e3, e4, e5, e30, e31, e32, h3, addOff, hg, hcx, hw, hxx, hod, g, hu, m13, m13', a1, a2, a3, hgx, kFill, evPs, isTup, cellsL, wr, kRow, rd, hcn, w2, hst]
      refine ⟨l.length - (s + 1), by omega, s + 1, by omega, rfl, ⟨⟨(cs.set 39 v').set (13 + n) (.int .i64 ((cntS l n (s + 1) : Nat) : Int)), v', ?_⟩, by simp [e0], by simp [e3], by simp [e4], by simp [e5]⟩, by simp [e30], by simp [e31], by simp⟩
      rw [hos, if_pos (by rw [hax, g]), ← hu']
      have := funext hcs'
      rw [this]; exact hr2
    · have hc1 : cntS l n (s + 1) = cntS l n s := by simp [cntS, hax, g]
      simp [s62_1, e0, e3, e4, e5, e30, e31, e32, h3, addOff, hg, hcx, g, hw]
      refine ⟨l.length - (s + 1), by omega, s + 1, by omega, rfl, ⟨⟨cs, ov, ?_⟩, by simp [e0], by simp [e3], by simp [e4], by simp [e5]⟩, by simp [e30], by simp [e31], by simp⟩
      rw [hos, if_neg (by rw [hax]; exact g), List.append_nil, hc1]; exact hr
  · have h5 : s = l.length := by omega
    subst h5
    simp [s62_1, e31, e32]
    exact hQ _ _ ⟨⟨cs, ov, hr⟩, e0, e3, e4, e5⟩
theorem ordAt_bd {l : List Int} (hlen : l.length ≤ 256) : ∀ n, (ordAt l n 0).length ≤ 256 * n
  | 0 => by simp [ordAt]
  | 1 => by simp [ordAt]
  | n + 2 => by
    have h1 := ordAt_bd hlen (n + 1)
    have h2 := ordAt_le (l := l) n
    have h3 := cntS_le l (n + 1) l.length
    omega
theorem ordAt_bd2 {l : List Int} (hlen : l.length ≤ 256) {n s : Nat} (h1 : 1 ≤ n) (hs : s ≤ l.length) : (ordAt l n s).length ≤ 256 * n + 256 := by
  obtain ⟨m, rfl⟩ : ∃ m, n = m + 1 := ⟨n - 1, by omega⟩
  have h1 := ordAt_bd hlen (m + 1)
  have h2 := ordAt_len l m s
  have h3 := cntS_le l (m + 1) s
  omega
/-- where the codes of a length begin, how many there are, and where their symbols do, of the lengths below n -/
def Fq (l : List Int) (n i : Nat) : Nat := if 1 ≤ i ∧ i < n then (codeAt l i 0).toNat else 0
def Cq (l : List Int) (n i : Nat) : Nat := if 1 ≤ i ∧ i < n then cntS l i l.length else 0
def Sq (l : List Int) (n i : Nat) : Nat := if 1 ≤ i ∧ i < n then (ordAt l i 0).length else 0
theorem upd_q {f : Nat → Nat} {n : Nat} (h : 1 ≤ n) : updN (fun i => if 1 ≤ i ∧ i < n then f i else 0) n (f n) = fun i => if 1 ≤ i ∧ i < n + 1 then f i else 0 := by
  funext i
  unfold updN
  by_cases e : i = n
  · subst e; rw [if_pos rfl, if_pos (by omega)]
  · rw [if_neg e]
    show (if 1 ≤ i ∧ i < n then f i else 0) = _
    by_cases h2 : 1 ≤ i ∧ i < n
    · rw [if_pos h2, if_pos (by omega)]
    · rw [if_neg h2, if_neg (by omega)]
structure RdO (H0 : Heap) (a : Option Addr) (c : Nat) (l : List Int) (d n : Nat) (e : Fe) (H : Heap) : Prop where
  h1 : 1 ≤ n
  h2 : n ≤ 12
  h3 : d = 12 - n
  r : ∃ cs ov, Rc H0 H0.next (Fq l n) (Cq l n) (Sq l n) (ordAt l n 0) H cs ov
  e0 : e 0 = .slice a l.length c
  e3 : e 3 = .pointer (some ⟨H0.next, 0, none⟩)
  e4 : e 4 = .int .i64 (codeAt l n 0)
  e5 : e 5 = .int .i64 n
theorem ready_t (hl : Iv H a l) (hr : rightB l = true) : Wf S 62 [.slice a l.length c] H fun v H' => v = .pointer (some ⟨H.next, 0, none⟩) ∧ ∃ cs ov, Rc H H.next (Fq l 12) (Cq l 12) (Sq l 12) (ordAt l 12 0) H' cs ov := by
  have hlen := right_len hr
  have hall := right_all hr
  refine w62 rfl rfl _ ?_
  simp [s62, kFill, evPs, isTup, cellsL, wr]
  refine l62_0 S (fun d e H' => ∃ n, RdO H a c l d n e H') 11 ⟨1, by omega, by omega, by omega, ⟨_, .slice none 0 0, Kp.push (Nat.le_refl _), get_last, rfl, ?_, ?_, ?_, rfl, by simpa [ordAt, bvs] using Acc.nil⟩, by simp, by simp, by simp [codeAt_one], by simp⟩ ?_
  · intro n hn
    have : Fq l 1 n = 0 := by unfold Fq; rw [if_neg (by omega)]
    rw [this]
    have : n = 0 ∨ n = 1 ∨ n = 2 ∨ n = 3 ∨ n = 4 ∨ n = 5 ∨ n = 6 ∨ n = 7 ∨ n = 8 ∨ n = 9 ∨ n = 10 ∨ n = 11 ∨ n = 12 := by omega
    rcases this with rfl | rfl | rfl | rfl | rfl | rfl | rfl | rfl | rfl | rfl | rfl | rfl | rfl <;> rfl
  · intro n hn
    have : Cq l 1 n = 0 := by unfold Cq; rw [if_neg (by omega)]
    rw [this]
    have : n = 0 ∨ n = 1 ∨ n = 2 ∨ n = 3 ∨ n = 4 ∨ n = 5 ∨ n = 6 ∨ n = 7 ∨ n = 8 ∨ n = 9 ∨ n = 10 ∨ n = 11 ∨ n = 12 := by omega
    rcases this with rfl | rfl | rfl | rfl | rfl | rfl | rfl | rfl | rfl | rfl | rfl | rfl | rfl <;> rfl
  · intro n hn
    have : Sq l 1 n = 0 := by unfold Sq; rw [if_neg (by omega)]
    rw [this]
    have : n = 0 ∨ n = 1 ∨ n = 2 ∨ n = 3 ∨ n = 4 ∨ n = 5 ∨ n = 6 ∨ n = 7 ∨ n = 8 ∨ n = 9 ∨ n = 10 ∨ n = 11 ∨ n = 12 := by omega
    rcases this with rfl | rfl | rfl | rfl | rfl | rfl | rfl | rfl | rfl | rfl | rfl | rfl | rfl <;> rfl
  rintro d e H' ⟨n, h1, h2, rfl, ⟨cs, ov, hr0⟩, e0, e3, e4, e5⟩
  by_cases h3 : n ≤ 11
  · have h3' : (n : Int) ≤ 11 := by omega
    have hcb := code_bd hall hlen h1 h3 (Nat.zero_le l.length)
    obtain ⟨k, hk⟩ : ∃ k : Nat, codeAt l n 0 = (k : Int) := ⟨(codeAt l n 0).toNat, by omega⟩
    obtain ⟨a1, c1, rfl, _⟩ := hr0.a.len
    have r1 := hr0.setF (n := n) (by omega) (codeAt l n 0).toNat
    have s1 := hr0.st (j := n) (by omega) (codeAt l n 0)
    have ek : (((codeAt l n 0).toNat : Nat) : Int) = codeAt l n 0 := by omega
    have uF : updN (Fq l n) n (codeAt l n 0).toNat = Fq l (n + 1) := upd_q (f := fun i => (codeAt l i 0).toNat) h1
    rw [uF, ek] at r1
    obtain ⟨H1, hH1⟩ : ∃ H1, H1 = H'.put H.next (.cells (cs.set n (.int .i64 (codeAt l n 0))) 137 true) := ⟨_, rfl⟩
    rw [← hH1] at r1 s1
    obtain ⟨cs1, hcs1⟩ : ∃ cs1, cs1 = cs.set n (.int .i64 (codeAt l n 0)) := ⟨_, rfl⟩
    rw [← hcs1] at r1
    have r2 := r1.setS (n := n) (by omega) (ordAt l n 0).length
    have s2 := r1.st (j := 26 + n) (by omega) (((ordAt l n 0).length : Nat) : Int)
    have uS : updN (Sq l n) n (ordAt l n 0).length = Sq l (n + 1) := upd_q (f := fun i => (ordAt l i 0).length) h1
    rw [uS] at r2
    obtain ⟨H2, hH2⟩ : ∃ H2, H2 = H1.put H.next (.cells (cs1.set (26 + n) (.int .i64 (((ordAt l n 0).length : Nat) : Int))) 137 true) := ⟨_, rfl⟩
    rw [← hH2] at r2 s2
    have hC : Cq l n = fun i => if 1 ≤ i ∧ i < n then cntS l i l.length else if i = n then cntS l n 0 else 0 := by
      funext i
      unfold Cq
      by_cases e : i = n
      · subst e; simp [cntS]
      · simp [e]
    rw [hC] at r2
    have hxx := hr0.hx
    have hod := hr0.od
    have n13 : n < 13 := by omega
    have n13' : (n : Int) < 13 := by omega
    simp [s62_0, e0, e3, e4, e5, h3, h3', addOff, hxx, hod, n13, n13', s1, s2]
    refine readyIn_t (H0 := H) (a := a) (c := c) (l := l) (F := Fq l (n + 1)) (St := Sq l (n + 1)) (n := n) hl hlen (fun s hs => by have := ordAt_bd2 hlen h1 hs; omega) h1 h3 ⟨⟨_, _, r2⟩, by simp [e0], by simp [e3], by simp [e4], by simp [e5]⟩ (by simp) (by simp) (by simp) ?_
    rintro e' H3 ⟨⟨cs3, ov3, r3⟩, e0, e3, e4, e5⟩
    have hC3 : (fun i => if 1 ≤ i ∧ i < n then cntS l i l.length else if i = n then cntS l n l.length else 0) = Cq l (n + 1) := by
      funext i
      unfold Cq
      by_cases e : i = n
      · subst e; simp [h1]
      · by_cases h2 : 1 ≤ i ∧ i < n
        · rw [if_pos h2, if_pos (by omega)]
        · rw [if_neg h2, if_neg e, if_neg (by omega)]
    rw [hC3] at r3
    have hc3 := r3.c n (by omega)
    have hq3 : Cq l (n + 1) n = cntS l n l.length := by unfold Cq; rw [if_pos (by omega)]
    rw [hq3] at hc3
    have hx3 := r3.hx
    have hle := cntS_le l n l.length
    obtain ⟨m, rfl⟩ : ∃ m, n = m + 1 := ⟨n - 1, by omega⟩
    have hcc := codeAt_cnt l m l.length
    have hnx : codeAt l (m + 1 + 1) 0 = 2 * codeAt l (m + 1) l.length := by simp [codeAt]
    have hox : ordAt l (m + 1 + 1) 0 = ordAt l (m + 1) l.length := by simp [ordAt]
    have w1 : IntKind.i64.wrap (codeAt l (m + 1) 0 + (cntS l (m + 1) l.length : Nat)) = codeAt l (m + 1) 0 + (cntS l (m + 1) l.length : Nat) := wi (by omega) (by omega)
    have o1 : kBin .shl (.int .i64 (codeAt l (m + 1) 0 + (cntS l (m + 1) l.length : Nat))) (.int .u64 1) = some (.int .i64 (codeAt l (m + 1 + 1) 0)) := by
      rw [kb_shl, if_neg (by omega)]
      have hm : min (1 : Int).toNat IntKind.i64.bits = 1 := by decide
      rw [hm, wi (by omega) (by omega)]
      congr 2; omega
    have w2 : IntKind.i64.wrap (((m + 1 : Nat) : Int) + 1) = ((m + 1 + 1 : Nat) : Int) := by rw [wi (by omega) (by omega)]; omega
    generalize hn : m + 1 = n at *
    have n13'' : (n : Int) < 13 := by omega
    simp [e0, e3, e4, e5, addOff, hx3, n13, n13'', hc3, w1, o1, w2]
    refine ⟨12 - (n + 1), by omega, n + 1, by omega, by omega, rfl, ⟨cs3, ov3, ?_⟩, by simp [e0], by simp [e3], by simp, by simp⟩
    rw [hox]; exact r3
  · have h5 : n = 12 := by omega
    subst h5
    simp [s62_0, e3, e5]
    exact ⟨cs, ov, hr0⟩
end
end Go.Proofs.Ytlboioplemlneaa.K
