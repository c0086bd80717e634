/- Bytes by codes: what the program writes, and what the document says. -/
import Derived.Test.YtlboioplemlneaaPBitsN
import Derived.Test.YtlboioplemlneaaPHuffQ
set_option maxRecDepth 100000
set_option maxHeartbeats 2000000
set_option linter.unusedVariables false
set_option linter.unusedSimpArgs false
namespace Go.Proofs.Ytlboioplemlneaa.K
open Go Go.Proofs
/-- bytes that may be read -/
def Bv (H : Heap) (a : Option Addr) (l : Bytes) : Prop := 0 < l.length → ∃ b o cs rw, a = some ⟨b, o, none⟩ ∧ H.get b = .cells cs 5 rw ∧ ∀ (i : Nat) x, l[i]? = some x → cs[o + i]? = some (bv x)
theorem Bv.kp {H H' : Heap} {a : Option Addr} {l : Bytes} (h : Bv H a l) (hk : Kp H.next H H') : Bv H' a l := fun hp => by
  obtain ⟨b, o, cs, rw, h1, h2, h3⟩ := h hp
  exact ⟨b, o, cs, rw, h1, (hk.2 b (lt_cells h2)).trans h2, h3⟩
def encB (l : List Int) (b : Bytes) : List Int := b.flatMap fun x => codeB l x.toNat
theorem encB_succ {l : List Int} {b : Bytes} {i : Nat} {x : UInt8} (h : b[i]? = some x) : encB l (b.take (i + 1)) = encB l (b.take i) ++ codeB l x.toNat := by
  rw [List.take_add_one, h]; simp [encB]
/-- has each byte a code? -/
def okB (l : List Int) (b : Bytes) : Prop := ∀ x ∈ b, 0 < at0 l x.toNat
theorem okB_succ {l : List Int} {b : Bytes} {i : Nat} {x : UInt8} (h : b[i]? = some x) : okB l (b.take (i + 1)) ↔ okB l (b.take i) ∧ 0 < at0 l x.toNat := by
  rw [List.take_add_one, h]
  simp only [okB, List.mem_append, Option.toList_some, List.mem_singleton]
  exact ⟨fun hh => ⟨fun y hy => hh y (.inl hy), hh x (.inr rfl)⟩, fun ⟨h1, h2⟩ y hy => by rcases hy with hy | rfl; exact h1 y hy; exact h2⟩
theorem okB_no {l : List Int} {b : Bytes} {i : Nat} {x : UInt8} (h : b[i]? = some x) (h0 : ¬ 0 < at0 l x.toNat) : ¬ okB l b := fun hh => h0 (hh x (List.mem_of_getElem? h))
/-- bytes that hold just these bits -/
def Packs (bits : List Int) (s : Bytes) : Prop := ∃ V, V < 2 ^ bits.length ∧ bitsN V bits.length = bits ∧ s = packN V bits.length
theorem codeB_len {l : List Int} {s : Nat} : (codeB l s).length = (at0 l s).toNat := by simp [codeB, topB]
theorem encB_le {l : List Int} (hall : ∀ k, 0 ≤ at0 l k ∧ at0 l k ≤ 11) : ∀ b : Bytes, (encB l b).length ≤ 11 * b.length
  | [] => by simp [encB]
  | x :: b => by
    have := encB_le hall b
    have e : encB l (x :: b) = codeB l x.toNat ++ encB l b := rfl
    have := hall x.toNat
    rw [e, List.length_append, codeB_len, List.length_cons]; omega
section
variable {H : Heap} {a a2 : Option Addr} {c c2 : Nat} {l : List Int} {b : Bytes}
structure EnI (H0 : Heap) (w : Nat) (a a2 : Option Addr) (c c2 : Nat) (l : List Int) (b : Bytes) (cb : Nat) (d : Nat) (e : Fe) (H : Heap) (i : Nat) : Prop where
  h1 : i ≤ b.length
  h2 : d = b.length - i
  kp : Kp w H0 H
  r : ∃ V sv, Wr H w V (encB l (b.take i)).length sv ∧ bitsN V (encB l (b.take i)).length = encB l (b.take i)
  ok : okB l (b.take i)
  e0 : e 0 = .slice a l.length c
  e6 : e 6 = .slice (some ⟨cb, 0, none⟩) l.length l.length
  e8 : e 8 = .pointer (some ⟨w, 0, none⟩)
  e18 : e 18 = .slice a2 b.length c2
  e19 : e 19 = .int .i64 b.length
  e20 : e 20 = .int .i64 i
theorem Encode_t (hl : Iv H a l) (hm : (l.length : Int) ≤ 9223372036854775807) (hb : Bv H a2 b) (hbl : b.length ≤ 5000) :
    Wf S 25 [.slice a l.length c, .slice a2 b.length c2] H fun v H' => Kp H.next H H' ∧
      ((wholeB l = true ∧ okB l b ∧ ∃ s, v = .tuple #[.string (ofL s), .bool true] ∧ Packs (encB l b) s) ∨ (¬ (wholeB l = true ∧ okB l b) ∧ v = .tuple #[.string (ofL []), .bool false])) := by
  refine w25 rfl rfl _ _ ?_
  simp [s25]
  refine (Codes_t hl hm).mono ?_
  rintro v H1 ⟨hk1, h⟩
  rcases h with ⟨hw, rfl⟩ | ⟨hw, cb, rfl, hcb, ho⟩
  · simp [hw, tup, bs_ofL]; exact hk1
  have hr : rightB l = true := by simp only [wholeB, Bool.and_eq_true] at hw; exact hw.1
  have hlen := right_len hr
  have hall := right_all hr
  have hl1 := hl.kp hk1
  have hb1 := hb.kp hk1
  have hcbl : cb < H1.next := lt_cells ho
  simp [hw]
  have hky : Kp H1.next H1 (H1.push (BwB (.slice none 0 0) 0)) := Kp.push (Nat.le_refl _)
  have hgy : (H1.push (BwB (.slice none 0 0) 0)).get H1.next = BwB (.slice none 0 0) 0 := get_last
  have hny : (H1.push (BwB (.slice none 0 0) 0)).next = H1.next + 1 := next_push
  have hWr : Wr (H1.push (BwB (.slice none 0 0) 0)) H1.next 0 0 (.slice none 0 0) := ⟨hgy, by simpa [packN, bvs] using Acc.nil, by decide⟩
  have hl2 := hl1.kp hky
  have hb2 := hb1.kp hky
  have e1 : H1.push (.cells [.slice none 0 0, .int .i64 0] 99 true) = H1.push (BwB (.slice none 0 0) 0) := rfl
  rw [e1]
  generalize H1.push (BwB (.slice none 0 0) 0) = H2 at *
  refine l25_0 S (fun d e H' => ∃ i, EnI H2 H1.next a a2 c c2 l b cb d e H' i) b.length ⟨0, by omega, by omega, Kp.refl _ _, ⟨0, _, by simpa [encB] using hWr, by simp [encB, bitsN]⟩, by simp [okB], by simp, by simp, by simp, by simp, by simp, by simp⟩ ?_
  rintro d e H' ⟨i, hi, rfl, hkp, ⟨V, sv, hWr, hbits⟩, hok, e0, e6, e8, e18, e19, e20⟩
  have hl3 : Iv H' a l := fun hp => by
    obtain ⟨q1, q2, q3, q4, q5, q6, q7⟩ := hl1 hp
    obtain ⟨r1, r2, r3, r4, r5, r6, r7⟩ := hl2 hp
    have hq : q1 < H1.next := lt_cells q6
    rw [q5] at r5; cases r5
    exact ⟨_, _, _, _, q5, (hkp.2 _ hq).trans r6, r7⟩
  have hb3 : Bv H' a2 b := fun hp => by
    obtain ⟨q1, q2, q3, q4, q5, q6, q7⟩ := hb1 hp
    obtain ⟨r1, r2, r3, r4, r5, r6, r7⟩ := hb2 hp
    have hq : q1 < H1.next := lt_cells q6
    rw [q5] at r5; cases r5
    exact ⟨_, _, _, _, q5, (hkp.2 _ hq).trans r6, r7⟩
  have ho3 : H'.get cb = .cells (ints (codes l)) 3 true := (hkp.2 _ hcbl).trans ((hky.2 _ hcbl).trans ho)
  by_cases h3 : i < b.length
  · obtain ⟨bb, o, cs, rw, rfl, hg, hc⟩ := hb3 (by omega)
    obtain ⟨x, hx⟩ : ∃ x, b[i]? = some x := ⟨_, List.getElem?_eq_getElem h3⟩
    have hcx := hc i x hx
    have hxb := x.toNat_lt
    have w2 : IntKind.i64.wrap ((i : Int) + 1) = (i : Int) + 1 := wi (by omega) (by omega)
    obtain ⟨k, hk⟩ : ∃ k, k = x.toNat := ⟨_, rfl⟩
    rw [← hk] at hxb
    have wk : IntKind.i64.wrap (k : Int) = k := wi (by omega) (by omega)
    have hcx' : cs[o + i]? = some (.int .u8 k) := by rw [hcx, bv, hk]
    by_cases hkl : k < l.length
    · obtain ⟨y, hy⟩ : ∃ y, l[k]? = some y := ⟨_, List.getElem?_eq_getElem hkl⟩
      obtain ⟨b2, o2, cs2, rw2, rfl, hg2, hc2⟩ := hl3 (by omega)
      have hcy := hc2 k y hy
      have hay := at0_of hy
      have hyb := hall k
      rw [hay] at hyb
      have hkl' : ¬ (l.length : Int) ≤ k := by omega
      by_cases hy0 : y = 0
      · have hno : ¬ okB l b := okB_no hx (by rw [← hk, hay, hy0]; omega)
        simp [s25_0, e0, e6, e8, e18, e19, e20, h3, addOff, hg, hcx', wk, hkl, hkl', hg2, hcy, hy0, tup, bs_ofL, hno]
        exact hk1.trans ((hky.mono hk1.1).trans (hkp.mono hk1.1))
      · have hy1 : 0 < y := by omega
        obtain ⟨n, hn⟩ : ∃ n : Nat, y = (n : Int) := ⟨y.toNat, by omega⟩
        have hco : codeOf l k = codeAt l n k := by unfold codeOf; rw [hay, if_pos hy1, hn]; rfl
        have hcb2 := code_bd hall hlen (n := n) (s := k) (by omega) (by omega) (by omega)
        rw [← hco] at hcb2
        obtain ⟨q, hq⟩ : ∃ q : Nat, codeOf l k = (q : Int) := ⟨(codeOf l k).toNat, by omega⟩
        have hcq : (ints (codes l))[k]? = some (.int .i64 (q : Int)) := by simp [ints, codes, hkl, hq]
        have hcB : codeB l x.toNat = topB q n n := by unfold codeB; rw [← hk, hay, hq, hn]; simp
        subst hn
        have hn0 : ¬ n = 0 := by omega
        simp [s25_0, e0, e6, e8, e18, e19, e20, h3, addOff, hg, hcx', wk, hkl, hkl', hg2, hcy, hn0, ho3, hcq]
        refine (turned_t q n (by omega) (by omega)).mono ?_
        rintro v H4 ⟨rfl, rfl⟩
        have hev : evI [] 0 none = some 0 := rfl
        simp [ck, kop, kLd, hg2, hcy, veq, veq1]
        have hble := encB_le hall (b.take i)
        have hbl2 : (b.take i).length ≤ b.length := by rw [List.length_take]; omega
        have htl := turnN_lt q n
        have p11 : 2 ^ n ≤ 2 ^ 11 := Nat.pow_le_pow_right (by omega) (by omega)
        have e11 : (2 : Nat) ^ 11 = 2048 := by decide
        refine (Put_t hWr (by omega) (turnN q n) n (by omega) (by omega)).mono ?_
        rintro v H5 ⟨rfl, hk5, sv5, hW5⟩
        rw [Nat.mod_eq_of_lt htl] at hW5
        simp [w2]
        have hlen2 : (encB l (b.take (i + 1))).length = (encB l (b.take i)).length + n := by rw [encB_succ hx, List.length_append, hcB]; simp [topB]
        refine ⟨b.length - (i + 1), by omega, i + 1, by omega, rfl, hkp.trans hk5, ⟨V + turnN q n * 2 ^ (encB l (b.take i)).length, sv5, by rw [hlen2]; exact hW5, ?_⟩, (okB_succ hx).2 ⟨hok, by rw [← hk, hay]; exact hy1⟩, by simp [e0], by simp [e6], by simp [e8], by simp [e18], by simp [e19], by simp⟩
        rw [hlen2, bitsN_put hWr.hV, hbits, turn_bits, encB_succ hx, hcB]
    · have hno : ¬ okB l b := okB_no hx (by
        rw [← hk]; unfold at0; rw [List.getD_eq_getElem?_getD, List.getElem?_eq_none (by omega)]; simp)
      have hkl' : (l.length : Int) ≤ k := by omega
      have hkl2 : l.length ≤ k := by omega
      simp [s25_0, e0, e6, e8, e18, e19, e20, h3, addOff, hg, hcx', wk, hkl, hkl', hkl2, tup, bs_ofL, hno]
      exact hk1.trans ((hky.mono hk1.1).trans (hkp.mono hk1.1))
  · have h5 : i = b.length := by omega
    subst h5
    rw [List.take_length] at hWr hbits hok
    obtain ⟨a5, c5, rfl, hrow⟩ := hWr.a.row
    have hble := encB_le hall b
    simp [s25_0, e8, e19, e20]
    refine (WBytes_t hWr.hx hrow (by rw [bvs_len, packN_len]) (by omega)).mono ?_
    rintro v H5 ⟨hk5, hA5⟩
    obtain ⟨a6, c6, rfl, hrow6⟩ := hA5.row
    have hrow6' : kRow H5 5 1 (packN V (encB l b).length).length a6 = some (bvs (packN V (encB l b).length)) := by rw [packN_len]; exact hrow6
    have hb6 := fun K => s_b2s (S := S) (e := []) (K := K) (c := c6) hrow6'
    rw [packN_len] at hb6
    have hpe : Packs (encB l b) (packN V (encB l b).length) := ⟨V, hWr.hV, hbits, rfl⟩
    generalize packN V (encB l b).length = pk at *
    simp [hb6, hw, hok, tup]
    refine ⟨hk1.trans ((hky.mono hk1.1).trans ((hkp.mono hk1.1).trans (hk5.mono ?_))), pk, rfl, hpe⟩
    have := hky.1; have := hkp.1; have := hk1.1; omega
end
end Go.Proofs.Ytlboioplemlneaa.K
