/- Scripts: acts as bytes, by the program; bytes as acts, plainly. -/
import Derived.Test.YtlboioplemlneaaPScrC
set_option maxRecDepth 100000
set_option maxHeartbeats 4000000
set_option linter.unusedVariables false
set_option linter.unusedSimpArgs false
namespace Go.Proofs.Ytlboioplemlneaa.K
open Go Go.Proofs
/- PLAIN -/
theorem pA_some {s r : Bytes} {a : Ac} (h : pA s = some (a, r)) : s = actB a ++ r ∧ a.fits = true := by
  match s with
  | [] => simp [pA] at h
  | [x] => simp [pA] at h
  | k :: nd :: t =>
    have hk := k.toNat_lt
    have hnd := nd.toNat_lt
    simp only [pA] at h
    split at h
    · cases h
    rename_i hk32
    simp only [Option.bind_eq_some_iff] at h
    obtain ⟨p, hp, h⟩ := h
    split at h
    · cases h
    rename_i hn
    simp only [Option.bind_eq_some_iff] at h
    obtain ⟨q, hq, h⟩ := h
    split at h
    · cases h
    rename_i hm
    split at h
    · cases h
    rename_i hk9
    simp only [Option.some.injEq, Prod.mk.injEq] at h
    obtain ⟨rfl, rfl⟩ := h
    obtain ⟨n, t1⟩ := p
    obtain ⟨m, t2⟩ := q
    have h1 := (pG_grp t 0 n t1 hp).1
    have h2 := (pG_grp t1 0 m t2 hq).1
    simp only at hn hm h1 h2 ⊢
    refine ⟨?_, ?_⟩
    · have hl : (t2.take m).length = m := by rw [List.length_take]; omega
      have hh : Ac.head ⟨((k.toNat % 16 : Nat) : Int), ((nd.toNat : Nat) : Int), ((n : Nat) : Int), decide (16 ≤ k.toNat), t2.take m⟩ = k.toNat := by
        unfold Ac.head
        simp only [Int.toNat_natCast, decide_eq_true_eq]
        split <;> omega
      unfold actB
      rw [hh]
      simp only [Int.toNat_natCast, txt, hl]
      have e1 : UInt8.ofNat k.toNat = k := by simp
      have e2 : UInt8.ofNat nd.toNat = nd := by simp
      rw [e1, e2]
      simp only [List.append_assoc, List.cons_append, List.nil_append, List.take_append_drop]
      rw [← h2, ← h1]
    · rw [Ac.fits_iff]; simp; omega
theorem pA_act {a : Ac} (h : a.fits = true) (r : Bytes) : pA (actB a ++ r) = some (a, r) := by
  rw [Ac.fits_iff] at h
  obtain ⟨⟨k1, k2⟩, ⟨n1, n2⟩, ⟨m1, m2⟩, hd⟩ := h
  have hh : a.head < 32 := by unfold Ac.head; split <;> omega
  have e1 : (UInt8.ofNat a.head).toNat = a.head := by simp; omega
  have e2 : (UInt8.ofNat a.node.toNat).toNat = a.node.toNat := by simp; omega
  have g1 := grp_pG a.n.toNat 0 (txt a.data ++ r) (by omega) (by simp; omega) (by omega)
  have g2 := grp_pG a.data.length 0 (a.data ++ r) (by omega) (by simp; omega) (by omega)
  have hsp : actB a ++ r = UInt8.ofNat a.head :: UInt8.ofNat a.node.toNat :: (grp a.n.toNat ++ (txt a.data ++ r)) := by
    unfold actB; simp
  have hsp2 : txt a.data ++ r = grp a.data.length ++ (a.data ++ r) := by unfold txt; simp
  rw [hsp2] at g1
  rw [hsp, hsp2]
  simp only [pA, e1, e2, g1, Option.bind_some]
  rw [if_neg (by omega), if_neg (by omega)]
  simp only [g2, Option.bind_some]
  have hk16 : a.head % 16 = a.kind.toNat ∧ (16 ≤ a.head ↔ a.up = true) := by
    unfold Ac.head
    cases a.up <;> simp <;> omega
  rw [if_neg (by simp; omega), if_neg (by omega)]
  obtain ⟨kind, node, n, up, data⟩ := a
  simp only at *
  simp only [Option.some.injEq, Prod.mk.injEq]
  constructor
  · simp only [Ac.mk.injEq]
    refine ⟨by omega, by omega, by omega, ?_, by simp⟩
    have := hk16.2
    cases up with
    | true => simp only [decide_eq_true_eq]; exact this.2 rfl
    | false => rw [decide_eq_false_iff_not]; intro h; have := this.1 h; cases this
  · simp
theorem actB_len {a : Ac} (h : a.fits = true) : 4 ≤ (actB a).length ∧ (actB a).length ≤ 630 := by
  rw [Ac.fits_iff] at h
  have h1 := grp_len_pos a.n.toNat
  have h2 := grp_len_pos a.data.length
  have h3 := grp_len10 (v := a.n.toNat) (by omega)
  have h4 := grp_len10 (v := a.data.length) (by omega)
  unfold actB txt
  simp only [List.length_append, List.length_cons, List.length_nil]
  omega
theorem pA_len {s r : Bytes} {a : Ac} (h : pA s = some (a, r)) : r.length + 4 ≤ s.length := by
  obtain ⟨h1, h2⟩ := pA_some h
  have := (actB_len h2).1
  rw [h1, List.length_append]; omega
/-- i acts, one behind the other: which ones, and where they end -/
def stS (s : Bytes) : Nat → Option (List Ac × Nat)
  | 0 => some ([], 0)
  | i + 1 => (stS s i).bind fun p => (pA (s.drop p.2)).map fun q => (p.1 ++ [q.1], s.length - q.2.length)
theorem stS_none {s : Bytes} {i : Nat} (h : stS s i = none) : ∀ m, stS s (i + m) = none
  | 0 => h
  | m + 1 => by
    have := stS_none h m
    rw [← Nat.add_assoc]
    simp only [stS, this, Option.bind_none]
theorem stS_inv {s : Bytes} : ∀ i L k, stS s i = some (L, k) → L.length = i ∧ k ≤ s.length ∧ s.take k = L.flatMap actB ∧ (∀ a ∈ L, a.fits = true) ∧ 4 * i ≤ k
  | 0, L, k, h => by simp [stS] at h; obtain ⟨rfl, rfl⟩ := h; simp
  | i + 1, L, k, h => by
    simp only [stS, Option.bind_eq_some_iff, Option.map_eq_some_iff] at h
    obtain ⟨⟨L0, k0⟩, h0, ⟨a, r⟩, h1, h2⟩ := h
    simp only [Prod.mk.injEq] at h2
    obtain ⟨rfl, rfl⟩ := h2
    obtain ⟨q1, q2, q3, q4, q5⟩ := stS_inv i L0 k0 h0
    obtain ⟨p1, p2⟩ := pA_some h1
    have hpl := pA_len h1
    simp only at p1 hpl ⊢
    rw [List.length_drop] at hpl
    have hl := congrArg List.length p1
    rw [List.length_drop, List.length_append] at hl
    refine ⟨by simp [q1], by omega, ?_, ?_, by omega⟩
    · have e : s.length - r.length = k0 + (actB a).length := by omega
      rw [e, List.take_add, q3, p1]
      simp
    · intro b hb
      rcases List.mem_append.1 hb with hb | hb
      · exact q4 b hb
      · simp only [List.mem_singleton] at hb; subst hb; exact p2
theorem stS_next {s : Bytes} {i k : Nat} {L : List Ac} {a : Ac} {r : Bytes} (h : stS s i = some (L, k)) (hp : pA (s.drop k) = some (a, r)) : stS s (i + 1) = some (L ++ [a], s.length - r.length) := by
  simp only [stS, h, Option.bind_some, hp, Option.map_some]
theorem stS_stop {s : Bytes} {i k : Nat} {L : List Ac} (h : stS s i = some (L, k)) (hp : pA (s.drop k) = none) : stS s (i + 1) = none := by
  simp only [stS, h, Option.bind_some, hp, Option.map_none]
/-- where reading ends, and with what, is one -/
theorem stS_end {s : Bytes} {i j k m : Nat} {L M : List Ac} (h : stS s i = some (L, k)) (hp : pA (s.drop k) = none) (h' : stS s j = some (M, m)) (hp' : pA (s.drop m) = none) : L = M ∧ k = m := by
  have e : i = j := by
    rcases Nat.lt_trichotomy i j with hlt | he | hgt
    · obtain ⟨d, hd⟩ := Nat.exists_eq_add_of_le (show i + 1 ≤ j by omega)
      have := stS_none (stS_stop h hp) d
      rw [← hd, h'] at this; cases this
    · exact he
    · obtain ⟨d, hd⟩ := Nat.exists_eq_add_of_le (show j + 1 ≤ i by omega)
      have := stS_none (stS_stop h' hp') d
      rw [← hd, h] at this; cases this
  subst e
  rw [h] at h'
  simp only [Option.some.injEq, Prod.mk.injEq] at h'
  exact h'
/-- what acts were written as is read as these -/
theorem stS_back {L : List Ac} (hf : ∀ a ∈ L, a.fits = true) : ∀ i, i ≤ L.length → stS (L.flatMap actB) i = some (L.take i, ((L.take i).flatMap actB).length)
  | 0, _ => by simp [stS]
  | i + 1, hi => by
    have ih := stS_back hf i (by omega)
    obtain ⟨a, ha⟩ : ∃ a, L[i]? = some a := ⟨_, List.getElem?_eq_getElem (by omega)⟩
    have hfa := hf a (List.mem_of_getElem? ha)
    have htk : L.take (i + 1) = L.take i ++ [a] := by rw [List.take_add_one, ha]; rfl
    have hsp : L.flatMap actB = (L.take i).flatMap actB ++ (actB a ++ (L.drop (i + 1)).flatMap actB) := by
      have e2 : (L.take (i + 1) ++ L.drop (i + 1)).flatMap actB = (L.take (i + 1)).flatMap actB ++ (L.drop (i + 1)).flatMap actB := List.flatMap_append
      rw [List.take_append_drop, htk] at e2
      rw [e2]; simp
    have hdr : (L.flatMap actB).drop ((L.take i).flatMap actB).length = actB a ++ (L.drop (i + 1)).flatMap actB := by
      rw [hsp]; simp
    have hp : pA ((L.flatMap actB).drop ((L.take i).flatMap actB).length) = some (a, (L.drop (i + 1)).flatMap actB) := by
      rw [hdr]; exact pA_act hfa _
    rw [stS_next ih hp, htk]
    simp only [Option.some.injEq, Prod.mk.injEq, true_and]
    have := congrArg List.length hsp
    simp only [List.length_append, List.flatMap_append, List.flatMap_cons, List.flatMap_nil, List.append_nil] at this ⊢
    omega
/- THE PROGRAM -/
def Av (H : Heap) (a : Option Addr) (L : List Ac) : Prop := 0 < L.length → ∃ b rw, a = some ⟨b, 0, none⟩ ∧ H.get b = .cells (L.flatMap Ac.cells) 25 rw
theorem Av.kp {H H' : Heap} {a : Option Addr} {L : List Ac} (h : Av H a L) (hk : Kp H.next H H') : Av H' a L := fun hp => by
  obtain ⟨b, rw, h1, h2⟩ := h hp
  exact ⟨b, rw, h1, (hk.2 b (lt_cells h2)).trans h2⟩
theorem acts_rd {L : List Ac} {i : Nat} {a : Ac} (h : L[i]? = some a) : rd (L.flatMap Ac.cells) (i * 5) 5 = some a.cells := rows_rd (f := Ac.cells) (z := 5) Ac.len h
section
variable {H : Heap} {a : Option Addr} {c : Nat} {L : List Ac}
structure ScI (H0 : Heap) (w : Nat) (a : Option Addr) (c : Nat) (L : List Ac) (d : Nat) (e : Fe) (H : Heap) (i : Nat) : Prop where
  h1 : i ≤ L.length
  h2 : d = L.length - i
  kp : KQ (fun k => k < w) H0 H
  r : WrC H w ((L.take i).flatMap actB) (fun k => k < w)
  f : ∀ x ∈ L.take i, x.fits = true
  e4 : e 4 = .pointer (some ⟨w, 0, none⟩)
  e8 : e 8 = .slice a L.length c
  e9 : e 9 = .int .i64 L.length
  e10 : e 10 = .int .i64 i
theorem or16k : ∀ k : Fin 10, (k.val ||| 16) = k.val + 16 := by decide
theorem acts_len : ∀ {L : List Ac}, (∀ x ∈ L, x.fits = true) → (L.flatMap actB).length ≤ 630 * L.length
  | [], _ => by simp
  | x :: L, h => by
    have h1 := acts_len (L := L) fun y hy => h y (List.mem_cons_of_mem _ hy)
    have h2 := (actB_len (h x (List.mem_cons_self ..))).2
    simp only [List.flatMap_cons, List.length_append, List.length_cons]; omega
/-- may all be in a script? -/
def allF (L : List Ac) : Bool := L.all Ac.fits
theorem sEncode_t (hl : Av H a L) (hL : L.length ≤ 1000) : Wf S 17 [.slice a L.length c] H fun v H' => Kp H.next H H' ∧
    ((allF L = true ∧ v = .tuple #[.string (ofL (L.flatMap actB)), .int .i64 0]) ∨ (allF L = false ∧ v = .tuple #[.string (ofL []), .int .i64 3])) := by
  refine w17 rfl rfl _ ?_
  simp [s17]
  have hw0 : WrC (H.push (.cells [.slice none 0 0] 74 true)) H.next [] (fun k => k < H.next) := WrC.new
  have hk0 : Kp H.next H (H.push (.cells [.slice none 0 0] 74 true)) := Kp.push (Nat.le_refl _)
  generalize H.push (.cells [.slice none 0 0] 74 true) = H1 at *
  refine l17_0 S (fun d e H' => ∃ i, ScI H1 H.next a c L d e H' i) L.length ⟨0, by omega, by omega, KQ.refl _ _, by simpa using hw0, by simp, by simp, by simp, by simp, by simp⟩ ?_
  rintro d e H2 ⟨i, hi, rfl, hkp, hr, hf, e4, e8, e9, e10⟩
  have hl2 : Av H2 a L := fun hp => by
    obtain ⟨b, rw, h1, h2⟩ := hl hp
    have := lt_cells h2
    exact ⟨b, rw, h1, (hkp.2 b this).trans ((hk0.2 b this).trans h2)⟩
  by_cases h3 : i < L.length
  · obtain ⟨b, rw, rfl, hg⟩ := hl2 (by omega)
    obtain ⟨x, hx⟩ : ∃ x, L[i]? = some x := ⟨_, List.getElem?_eq_getElem h3⟩
    have hrd := acts_rd hx
    have w2 : IntKind.i64.wrap ((i : Int) + 1) = (i : Int) + 1 := wi (by omega) (by omega)
    have hld : kLdn H2 5 (.pointer (some ⟨b, i * 5, none⟩)) = some (.agg x.cells.toArray) := by simp [kLdn, hg, hrd]
    have bsz : (.string (bs []) : Value) = .string ⟨#[]⟩ := rfl
    have hwlt : H.next < H2.next := hr.lt
    have hst : kStn (H2.push (.cells [.int .i64 0, .int .i64 0, .int .i64 0, .bool false, .string ⟨#[]⟩] 25 true)) 5 (.pointer (some ⟨H2.next, 0, none⟩)) (.agg x.cells.toArray) = some (H2.push (.cells x.cells 25 true)) := by
      have := get_last (H := H2) (b := .cells [.int .i64 0, .int .i64 0, .int .i64 0, .bool false, .string ⟨#[]⟩] 25 true)
      simp [kStn, this, Ac.cells, wr]
    obtain ⟨H3, hH3⟩ : ∃ H3, H3 = H2.push (.cells x.cells 25 true) := ⟨_, rfl⟩
    rw [← hH3] at hst
    have g3 : H3.get H2.next = .cells [.int .i64 x.kind, .int .i64 x.node, .int .i64 x.n, .bool x.up, .string (ofL x.data)] 25 true := by rw [hH3]; exact get_last
    have n3 : H3.next = H2.next + 1 := by rw [hH3]; exact next_push
    have k3 : Kp H2.next H2 H3 := by rw [hH3]; exact Kp.push (Nat.le_refl _)
    have hld3 : ∀ H', H'.get H2.next = H3.get H2.next → kLdn H' 5 (.pointer (some ⟨H2.next, 0, none⟩)) = some (.agg x.cells.toArray) := fun H' h => by simp [kLdn, h, g3, rd, Ac.cells]
    have hld33 := hld3 H3 rfl
    simp [s17_0, e4, e8, e9, e10, h3, addOff, hld, bsz, hst, hld33]
    refine (Fits_t x).mono ?_
    rintro v H4 ⟨hk4, rfl⟩
    have g4 := (hk4.2 H2.next (by omega)).trans g3
    have hn4 := hk4.1
    have kq4 : KQ (fun k => k < H.next) H1 H4 := hkp.trans ⟨by omega, fun k hk => (hk4.2 k (by omega)).trans (k3.2 k (by omega))⟩
    have kf : ∀ {H' : Heap}, KQ (fun k => k < H.next) H1 H' → Kp H.next H H' := fun h => hk0.trans ⟨h.1, h.2⟩
    cases hfx : x.fits with
    | false =>
      have hall : allF L = false := by
        unfold allF
        rw [List.all_eq_false]
        exact ⟨x, List.mem_of_getElem? hx, by simp [hfx]⟩
      simp [hall, tup, bs_ofL]
      exact ⟨kf kq4, rfl⟩
    | true =>
      have hr4 : WrC H4 H.next ((L.take i).flatMap actB) (fun k => k < H.next ∨ k = H2.next) := hr.with ⟨by omega, fun k hk => (hk4.2 k (by omega)).trans (k3.2 k hk)⟩ (Nat.le_refl _) (by omega)
      have hol := acts_len hf
      have hol2 : (L.take i).length ≤ 1000 := by rw [List.length_take]; omega
      have hfx' := hfx
      rw [Ac.fits_iff] at hfx'
      obtain ⟨⟨q1, q2⟩, ⟨q3, q4⟩, ⟨q5, q6⟩, q7⟩ := hfx'
      obtain ⟨nn, hnn⟩ : ∃ nn : Nat, x.n = (nn : Int) := ⟨x.n.toNat, by omega⟩
      obtain ⟨nd, hnd⟩ : ∃ nd : Nat, x.node = (nd : Int) := ⟨x.node.toNat, by omega⟩
      obtain ⟨kd, hkd⟩ : ∃ kd : Nat, x.kind = (kd : Int) := ⟨x.kind.toNat, by omega⟩
      rw [hnn, hnd, hkd] at g4
      have w4 : IntKind.u64.wrap (nd : Int) = nd := wu64 (by omega) (by omega)
      have w5 : IntKind.u64.wrap (nn : Int) = nn := wu64 (by omega) (by omega)
      obtain ⟨hd, hhd⟩ : ∃ hd, hd = x.head := ⟨_, rfl⟩
      have hdv : hd = kd + if x.up then 16 else 0 := by rw [hhd]; unfold Ac.head; rw [hkd]; simp
      have hdb : hd < 256 := by rw [hdv]; split <;> omega
      have w6 : IntKind.u64.wrap (hd : Int) = hd := wu64 (by omega) (by omega)
      have hB : actB x = [UInt8.ofNat hd, UInt8.ofNat nd] ++ grp nn ++ txt x.data := by unfold actB; rw [← hhd, hnn, hnd]; simp
      have hgl := grp_len10 (v := nn) (by omega)
      have htk : (L.take (i + 1)).flatMap actB = (L.take i).flatMap actB ++ [UInt8.ofNat hd] ++ [UInt8.ofNat nd] ++ grp nn ++ txt x.data := by
        rw [List.take_add_one, hx]; simp [hB]
      have hfs : ∀ y ∈ L.take (i + 1), y.fits = true := by
        rw [List.take_add_one, hx]
        intro y hy
        rcases List.mem_append.1 hy with hy | hy
        · exact hf y hy
        · simp only [Option.toList_some, List.mem_singleton] at hy; subst hy; exact hfx
      have okd : kBin .or (.int .i64 (kd : Int)) (.int .i64 16) = some (.int .i64 ((kd + 16 : Nat) : Int)) := by
        have h := kb_orN (k := .i64) (a := kd) (b := 16) (by show kd < 2 ^ 64; omega) (by decide)
        have h2 := or16k ⟨kd, by omega⟩
        simp only at h2
        rw [h2, wi (by omega) (by omega)] at h
        exact h
      have eg : ∀ {H' : Heap}, KQ (fun k => k < H.next ∨ k = H2.next) H4 H' → H'.get H2.next = .cells [.int .i64 (kd : Int), .int .i64 (nd : Int), .int .i64 (nn : Int), .bool x.up, .string (ofL x.data)] 25 true := fun h => (h.2 _ (.inr rfl)).trans g4
      cases hu : x.up with
      | true =>
        rw [hu] at g4 eg hdv
        simp only [if_true] at hdv
        rw [← hdv] at okd
        simp [e4, g4, addOff, okd, w4, w5, w6]
        refine (Fixed1w_t hr4 (by omega) hd hdb).mono ?_
        rintro v H5 ⟨rfl, kq5, hr5⟩
        have g5 := eg kq5
        simp [ck, kop, kLd, g5, veq, veq1]
        refine (Fixed1w_t hr5 (by simp only [List.length_append, List.length_cons, List.length_nil]; omega) nd (by omega)).mono ?_
        rintro v H6 ⟨rfl, kq6, hr6⟩
        have g6 := eg (kq5.trans kq6)
        simp [ck, kop, kLd, g6, veq, veq1]
        refine (Groupw_t hr6 (by simp only [List.length_append, List.length_cons, List.length_nil]; omega) nn (by omega)).mono ?_
        rintro v H7 ⟨rfl, kq7, hr7⟩
        have g7 := eg ((kq5.trans kq6).trans kq7)
        simp [ck, kop, kLd, g7, veq, veq1]
        refine (Textw_t hr7 (by simp only [List.length_append, List.length_cons, List.length_nil]; omega) x.data (by omega)).mono ?_
        rintro v H8 ⟨rfl, kq8, hr8⟩
        rw [← htk] at hr8
        have kq : KQ (fun k => k < H.next) H1 H8 := kq4.trans ⟨by have := (((kq5.trans kq6).trans kq7).trans kq8).1; omega, fun k hk => (((kq5.trans kq6).trans kq7).trans kq8).2 k (.inl hk)⟩
        simp [e10, w2]
        exact ⟨L.length - (i + 1), by omega, i + 1, by omega, rfl, kq, hr8.more fun k hk => .inl hk, hfs, by simp [e4], by simp [e8], by simp [e9], by simp⟩
      | false =>
        rw [hu] at g4 eg hdv
        simp only [Bool.false_eq_true, if_false, Nat.add_zero] at hdv
        rw [← hdv] at g4 eg
        simp [e4, g4, addOff, w4, w5, w6]
        refine (Fixed1w_t hr4 (by omega) hd hdb).mono ?_
        rintro v H5 ⟨rfl, kq5, hr5⟩
        have g5 := eg kq5
        simp [ck, kop, kLd, g5, veq, veq1]
        refine (Fixed1w_t hr5 (by simp only [List.length_append, List.length_cons, List.length_nil]; omega) nd (by omega)).mono ?_
        rintro v H6 ⟨rfl, kq6, hr6⟩
        have g6 := eg (kq5.trans kq6)
        simp [ck, kop, kLd, g6, veq, veq1]
        refine (Groupw_t hr6 (by simp only [List.length_append, List.length_cons, List.length_nil]; omega) nn (by omega)).mono ?_
        rintro v H7 ⟨rfl, kq7, hr7⟩
        have g7 := eg ((kq5.trans kq6).trans kq7)
        simp [ck, kop, kLd, g7, veq, veq1]
        refine (Textw_t hr7 (by simp only [List.length_append, List.length_cons, List.length_nil]; omega) x.data (by omega)).mono ?_
        rintro v H8 ⟨rfl, kq8, hr8⟩
        rw [← htk] at hr8
        have kq : KQ (fun k => k < H.next) H1 H8 := kq4.trans ⟨by have := (((kq5.trans kq6).trans kq7).trans kq8).1; omega, fun k hk => (((kq5.trans kq6).trans kq7).trans kq8).2 k (.inl hk)⟩
        simp [e10, w2]
        exact ⟨L.length - (i + 1), by omega, i + 1, by omega, rfl, kq, hr8.more fun k hk => .inl hk, hfs, by simp [e4], by simp [e8], by simp [e9], by simp⟩
  · have h5 : i = L.length := by omega
    subst h5
    rw [List.take_length] at hr hf
    simp [s17_0, e4, e9, e10]
    refine (Stringw_t hr).mono ?_
    rintro v H3 ⟨rfl, rfl⟩
    have hall : allF L = true := by unfold allF; rw [List.all_eq_true]; exact hf
    simp [hall, tup]
    exact hk0.trans ⟨hkp.1, hkp.2⟩
end
end Go.Proofs.Ytlboioplemlneaa.K
