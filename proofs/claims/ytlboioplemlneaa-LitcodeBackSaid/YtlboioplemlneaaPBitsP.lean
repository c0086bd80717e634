/- Bytes by codes, as the document writes them. -/
import Derived.Test.YtlboioplemlneaaPBitsO
set_option maxRecDepth 100000
set_option maxHeartbeats 2000000
set_option linter.unusedVariables false
set_option linter.unusedSimpArgs false
namespace Go.Proofs.Ytlboioplemlneaa.K
open Go Go.Proofs
theorem bits_num {bits : List Int} (h : ∀ x ∈ bits, x = 0 ∨ x = 1) : ∃ V, V < 2 ^ bits.length ∧ bitsN V bits.length = bits := by
  have key : ∀ i, i ≤ bits.length → ∃ V, V < 2 ^ i ∧ bitsN V i = bits.take i := by
    intro i
    induction i with
    | zero => intro _; exact ⟨0, by simp, by simp [bitsN]⟩
    | succ i ih =>
      intro hi
      obtain ⟨V, hV, hb⟩ := ih (by omega)
      obtain ⟨x, hx⟩ : ∃ x, bits[i]? = some x := ⟨_, List.getElem?_eq_getElem (by omega)⟩
      have hx01 := h x (List.mem_of_getElem? hx)
      refine ⟨V + x.toNat * 2 ^ i, ?_, ?_⟩
      · exact put_lt hV (by omega)
      · rw [bitsN_put hV, hb, List.take_add_one, hx]
        rcases hx01 with rfl | rfl <;> rfl
  obtain ⟨V, h1, h2⟩ := key bits.length (Nat.le_refl _)
  rw [List.take_length] at h2
  exact ⟨V, h1, h2⟩
theorem codeB_01 {l : List Int} {s : Nat} : ∀ x ∈ codeB l s, x = 0 ∨ x = 1 := by
  intro x hx
  simp only [codeB, topB, List.mem_map] at hx
  obtain ⟨i, _, rfl⟩ := hx
  omega
theorem encB_01 {l : List Int} {b : Bytes} : ∀ x ∈ encB l b, x = 0 ∨ x = 1 := by
  intro x hx
  simp only [encB, List.mem_flatMap] at hx
  obtain ⟨y, _, hx⟩ := hx
  exact codeB_01 x hx
theorem ivs_get {l : List Int} {i : Nat} {x : Int} (h : l[i]? = some x) : (ivs l)[i]? = some (.int .i64 x) := by simp [ivs, h]
/-- numbers that were gathered may be read -/
theorem Acc.iv {N M n : Nat} {H : Heap} {v : Value} {l : List Int} (h : Acc 3 1 N M H v n (ivs l)) : ∃ a c, v = .slice a n c ∧ n = l.length ∧ Iv H a l := by
  rcases h with ⟨rfl, h2, rfl⟩ | ⟨b, c, h1, h2, h3, h4, h5, h6⟩
  · have : l = [] := by simpa [ivs] using h2
    subst this
    exact ⟨none, 0, rfl, rfl, fun hp => by simp at hp⟩
  · exact ⟨_, c, h3, by simpa [ivs] using h6.symm, fun _ => ⟨b, 0, _, true, rfl, h5, fun i x hx => by rw [Nat.zero_add]; exact ivs_get hx⟩⟩
section
variable {H : Heap} {a a2 : Option Addr} {c c2 : Nat} {l : List Int} {b : Bytes}
structure REnI (H0 : Heap) (a a2 : Option Addr) (c c2 : Nat) (l : List Int) (b : Bytes) (d : Nat) (e : Fe) (H : Heap) (i : Nat) : Prop where
  h1 : i ≤ b.length
  h2 : d = b.length - i
  kp : Kp H0.next H0 H
  A : Acc 3 1 H0.next H.next H (e 6) (encB l (b.take i)).length (ivs (encB l (b.take i)))
  ok : okB l (b.take i)
  e0 : e 0 = .slice a l.length c
  e1 : e 1 = .slice a2 b.length c2
  e7 : e 7 = .int .i64 i
theorem rEncode_t (hl : Iv H a l) (hr : rightB l = true) (hb : Bv H a2 b) (hbl : b.length ≤ 5000) :
    Wf S 27 [.slice a l.length c, .slice a2 b.length c2] H fun v H' => Kp H.next H H' ∧
      ((okB l b ∧ ∃ s, v = .tuple #[.string (ofL s), .bool true] ∧ Packs (encB l b) s) ∨ (¬ okB l b ∧ v = .tuple #[.string (ofL []), .bool false])) := by
  have hlen := right_len hr
  have hall := right_all hr
  refine w27 rfl rfl _ _ ?_
  simp [s27]
  refine l27_0 S (fun d e H' => ∃ i, REnI H a a2 c c2 l b d e H' i) b.length ⟨0, by omega, by omega, Kp.refl _ _, by simpa [encB, ivs] using Acc.nil, by simp [okB], by simp, by simp, by simp⟩ ?_
  rintro d e H' ⟨i, hi, rfl, hkp, hA, hok, e0, e1, e7⟩
  have hl3 := hl.kp hkp
  have hb3 := hb.kp hkp
  by_cases h3 : i < b.length
  · obtain ⟨bb, o, cs, rw, rfl, hg, hc⟩ := hb3 (by omega)
    obtain ⟨x, hx⟩ : ∃ x, b[i]? = some x := ⟨_, List.getElem?_eq_getElem h3⟩
    have hcx := hc i x hx
    have hxb := x.toNat_lt
    have w2 : IntKind.i64.wrap ((i : Int) + 1) = (i : Int) + 1 := wi (by omega) (by omega)
    obtain ⟨k, hk⟩ : ∃ k, k = x.toNat := ⟨_, rfl⟩
    rw [← hk] at hxb
    have wk : IntKind.i64.wrap (k : Int) = k := wi (by omega) (by omega)
    have hcx' : cs[o + i]? = some (.int .u8 k) := by rw [hcx, bv, hk]
    by_cases hkl : k < l.length
    · obtain ⟨y, hy⟩ : ∃ y, l[k]? = some y := ⟨_, List.getElem?_eq_getElem hkl⟩
      obtain ⟨b2, o2, cs2, rw2, rfl, hg2, hc2⟩ := hl3 (by omega)
      have hcy := hc2 k y hy
      have hay := at0_of hy
      have hyb := hall k
      rw [hay] at hyb
      have hkl' : ¬ (l.length : Int) ≤ k := by omega
      by_cases hy0 : y = 0
      · have hno : ¬ okB l b := okB_no hx (by rw [← hk, hay, hy0]; omega)
        simp [s27_0, e0, e1, e7, h3, addOff, hg, hcx', wk, hkl, hkl', hg2, hcy, hy0, tup, bs_ofL, hno]
        exact hkp
      · have hy1 : 0 < at0 l k := by rw [hay]; omega
        simp [s27_0, e0, e1, e7, h3, addOff, hg, hcx', wk, hkl, hkl', hg2, hcy, hy0]
        refine (Code_t (c := c) (hl.kp hkp) hr hkl hy1).mono ?_
        rintro v H4 ⟨hk4, hA4⟩
        have hAk := hA.kp (H' := H4) fun b _ hb => hk4.2 b hb
        obtain ⟨a5, c5, rfl, hrow⟩ := hA4.row
        have hn1 := hk4.1
        have hn0 := hkp.1
        have hble := encB_le hall (b.take i)
        have hbl2 : (b.take i).length ≤ b.length := by rw [List.length_take]; omega
        have hab := hall k
        obtain ⟨v2, H5, hap, hA5, hn5, hk5⟩ := hAk.appN (m := (at0 l k).toNat) (bytes := 8) (new := ivs (codeB l k)) (by omega) hn1 (by omega) (by simp [ivs, codeB_len]) (by unfold roomMax; omega)
        simp [hrow, hap, w2]
        have hlen2 : (encB l (b.take (i + 1))).length = (encB l (b.take i)).length + (at0 l k).toNat := by rw [encB_succ hx, List.length_append, ← hk, codeB_len]
        refine ⟨b.length - (i + 1), by omega, i + 1, by omega, rfl, ⟨by omega, fun q hq => (hk5 q (by omega) (.inl hq)).trans ((hk4.2 q (by omega)).trans (hkp.2 q hq))⟩, ?_, (okB_succ hx).2 ⟨hok, by rw [← hk]; exact hy1⟩, by simp [e0], by simp [e1], by simp⟩
        rw [hlen2, encB_succ hx, ← hk]
        simpa [ivs] using hA5
    · have hno : ¬ okB l b := okB_no hx (by
        rw [← hk]; unfold at0; rw [List.getD_eq_getElem?_getD, List.getElem?_eq_none (by omega)]; simp)
      have hkl' : (l.length : Int) ≤ k := by omega
      have hkl2 : l.length ≤ k := by omega
      simp [s27_0, e0, e1, e7, h3, addOff, hg, hcx', wk, hkl, hkl', hkl2, tup, bs_ofL, hno]
      exact hkp
  · have h5 : i = b.length := by omega
    subst h5
    rw [List.take_length] at hA hok
    obtain ⟨a5, c5, e6, hn, hiv⟩ := hA.iv
    have hble := encB_le hall b
    obtain ⟨V, hV, hbits⟩ := bits_num (encB_01 (l := l) (b := b))
    rw [← hbits] at hiv
    simp [s27_0, e1, e6, e7]
    refine (Bytes_t hiv (by omega)).mono ?_
    rintro v H5 ⟨hk5, hA5⟩
    rw [Nat.mod_eq_of_lt hV] at hA5
    obtain ⟨a6, c6, rfl, hrow6⟩ := hA5.row
    have hrow6' : kRow H5 5 1 (packN V (encB l b).length).length a6 = some (bvs (packN V (encB l b).length)) := by rw [packN_len]; exact hrow6
    have hb6 := fun K => s_b2s (S := S) (e := []) (K := K) (c := c6) hrow6'
    rw [packN_len] at hb6
    have hpe : Packs (encB l b) (packN V (encB l b).length) := ⟨V, hV, hbits, rfl⟩
    generalize packN V (encB l b).length = pk at *
    simp [hb6, hok, tup]
    exact ⟨hkp.trans (hk5.mono hkp.1), pk, rfl, hpe⟩
end
end Go.Proofs.Ytlboioplemlneaa.K
