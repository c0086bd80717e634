/- More of K's operations on memory: build, slices built and made, append, copy, bytes and strings, cuts. -/
import Derived.Test.YtlboioplemlneaaKMem
import Derived.Laws.Tables
import Derived.Laws.MakeOwn
import Derived.Laws.BytesString
set_option linter.unusedVariables false
set_option linter.unusedSimpArgs false
namespace Go.Proofs.Ytlboioplemlneaa.K
open Go Go.RowKit

section
variable {P : Program} {B : Nat} {w0 w : World} {ρ : Rho} {H : Heap}

/- BUILD -/
theorem fill_set (off : Nat) : ∀ (l : List Value) (k : Nat) (cells : Array Value), off + k + l.length ≤ cells.size →
    ((l.zipIdx k).foldl (fun (cs : Array Value) (p : Value × Nat) => cs.setIfInBounds (off + p.2) p.1) cells).toList = wr cells.toList (off + k) l
  | [], k, cells, _ => by simp [wr]
  | v :: l, k, cells, h => by
    simp only [List.zipIdx_cons, List.foldl_cons]
    have h' : off + k + (l.length + 1) ≤ cells.size := by simpa using h
    rw [fill_set off l (k + 1) _ (by simp; omega)]
    have e := list_seg_step cells.toList (off + k) v l (by simp; omega)
    simp only [wr, Array.toList_setIfInBounds, List.length_cons] at e ⊢
    rw [show off + (k + 1) = off + k + 1 by omega]
    exact e

theorem kFill_some {z : List Value} {off n : Nat} {v : Value} {ps : List (Nat × Nat × Value)} {c : List Value} (h : kFill z ((off, n, v) :: ps) = some c) :
    isTup v = false ∧ (cellsL v).length = n ∧ off + n ≤ z.length ∧ kFill (wr z off (cellsL v)) ps = some c := by
  simp only [kFill] at h
  split at h
  · rename_i hc
    simp only [Bool.and_eq_true, Bool.not_eq_true', beq_iff_eq, decide_eq_true_eq] at hc
    exact ⟨hc.1.1, hc.1.2, hc.2, h⟩
  · cases h

theorem fill_ok (place : Nat → Option (Nat × Nat)) : ∀ (ps : List (Nat × Nat × Value)) (parts : List (Nat × Value)) (z : List Value) (z' : Array Value) (c : List Value),
    ps.length = parts.length → (∀ (j : Nat) p q, ps[j]? = some p → parts[j]? = some q → place q.1 = some (p.1, p.2.1) ∧ VRel P ρ p.2.2 q.2) → VL P ρ z z'.toList → (∀ x ∈ z, oneC x = true) →
    kFill z ps = some c → ∃ c', Instr.fill place z' parts = some c' ∧ VL P ρ c c'.toList ∧ ∀ x ∈ c, oneC x = true
  | [], [], z, z', c, _, _, hv, ho, hk => by
    simp [kFill] at hk; subst hk
    exact ⟨z', rfl, hv, ho⟩
  | [], _ :: _, _, _, _, hl, _, _, _, _ => by simp at hl
  | _ :: _, [], _, _, _, hl, _, _, _, _ => by simp at hl
  | (off, n, v) :: ps, (i, v') :: parts, z, z', c, hl, hrel, hv, ho, hk => by
    obtain ⟨ht, hlen, hfit, hk'⟩ := kFill_some hk
    obtain ⟨hp, hvv⟩ := hrel 0 _ _ rfl rfl
    simp only at hp hvv
    obtain ⟨hc, hoc, hce⟩ := hvv.cellsL ht
    have hsz : v'.cells.size = n := by rw [← Array.length_toList, hce, ← hc.1, hlen]
    have hzs : z'.size = z.length := by rw [← Array.length_toList, hv.1]
    have e : (v'.cells.zipIdx.foldl (fun (cs : Array Value) (p : Value × Nat) => cs.setIfInBounds (off + p.2) p.1) z').toList = wr z'.toList off (K.cellsL v') := by
      rw [← Array.foldl_toList, Array.toList_zipIdx, hce]
      have := fill_set off (K.cellsL v') 0 z' (by rw [← hc.1, hlen]; omega)
      simpa using this
    have hwl : VL P ρ (wr z off (K.cellsL v)) (wr z'.toList off (K.cellsL v')) := by
      unfold wr
      rw [hc.1]
      exact ((hv.take off).append hc).append (hv.drop _)
    have hwo : ∀ x ∈ wr z off (K.cellsL v), oneC x = true := by
      intro x hx
      simp only [wr, List.mem_append] at hx
      rcases hx with (hx | hx) | hx
      · exact ho x (List.mem_of_mem_take hx)
      · exact hoc x hx
      · exact ho x (List.mem_of_mem_drop hx)
    have ih := fill_ok place ps parts (wr z off (K.cellsL v)) (v'.cells.zipIdx.foldl (fun (cs : Array Value) (p : Value × Nat) => cs.setIfInBounds (off + p.2) p.1) z') c (by simpa using hl)
      (fun j p q hp hq => hrel (j + 1) p q (by simpa using hp) (by simpa using hq)) (by rw [e]; exact hwl) hwo hk'
    obtain ⟨c', hf, h1, h2⟩ := ih
    refine ⟨c', ?_, h1, h2⟩
    simp only [Instr.fill, hp]
    split
    · rename_i hc; simp [hsz, hzs] at hc; omega
    · exact hf

theorem agg_of {c c' : List Value} (h : VL P ρ c c') (ho : ∀ x ∈ c, oneC x = true) : VRel P ρ (.agg c.toArray) (.agg c'.toArray) :=
  .agg (by simp [h.1]) (fun j x y hx hy => h.2 j x y (by simpa using hx) (by simpa using hy)) (fun j x hx => ho x (List.mem_of_getElem? (by simpa using hx)))

/- A SLICE OF ONE'S OWN -/
theorem sl_new (h : HRel P B w0 ρ H w) {L : Loc} {n c c' : Nat} (hn : n ≤ c') (hc : c' = c ∨ c = capx) (h0 : L.off = 0) (hs : c' * P.cellsOf L.elem ≤ L.size) :
    VRel P (ρ ++ [L]) (.slice (some ⟨H.next, 0, none⟩) n c) (.slice (some ⟨L.block, 0, none⟩) n c') := by
  have := VRel.sl (P := P) (off := 0) (new_last h L) hn hc (by rw [h0]; simpa using hs)
  rw [h0] at this; exact this

theorem bsl_ok {t e : TypeId} {i : TypeInfo} {len : Nat} {ps : List (Nat × Nat × Value)} {parts : Array (Nat × Value)} {z c : List Value} {zv : Array Value}
    (ht : P.underlying t = some (.slice e)) (hi : P.info? e = some i) (hlim : len * i.size ≤ 16777216)
    (hz : (if len * i.size = 0 then zv = #[] else ∃ zz, i.zero = some zz ∧ zv = zz.cells))
    (hze : z = ((Array.range (len * i.size)).map (zv[· % zv.size]!)).toList) (hg : VL P [] z z) (hoz : ∀ x ∈ z, oneC x = true)
    (h : HRel P B w0 ρ H w) (hl : ps.length = parts.size) (hrel : ∀ (j : Nat) p q, ps[j]? = some p → parts[j]? = some q → (p.1, p.2.1) = (q.1 * i.size, i.size) ∧ VRel P ρ p.2.2 q.2)
    (hk : kFill z ps = some c) :
    Gives P B w0 ρ (Instr.buildSlice t len parts) w (.slice (some ⟨H.next, 0, none⟩) len len) (H.push (.cells c e true)) := by
  have hkl : ∀ (ps : List (Nat × Nat × Value)) (z c : List Value), kFill z ps = some c → c.length = z.length := by
    intro ps
    induction ps with
    | nil => intro z c h; simp [kFill] at h; rw [h]
    | cons p ps ih =>
      intro z c h
      obtain ⟨a, b, v⟩ := p
      obtain ⟨_, h2, h3, h4⟩ := kFill_some h
      rw [ih _ _ h4, wr_length (by omega)]
  obtain ⟨c', hf, hv, ho⟩ := fill_ok (P := P) (ρ := ρ) (fun j => some (j * i.size, i.size)) ps parts.toList z ((Array.range (len * i.size)).map (zv[· % zv.size]!)) c (by simpa using hl)
    (fun j p q hp hq => by obtain ⟨h1, h2⟩ := hrel j p q hp (by simpa using hq); exact ⟨by rw [h1], h2⟩) (by rw [← hze]; exact hg.mono List.nil_prefix) hoz hk
  obtain ⟨L, hH, hb, hoff, he, hs⟩ := newVar_ok (t := e) h hv ho
  have hlen : c'.size = len * i.size := by
    rw [← Array.length_toList, ← hv.1, hkl ps z c hk, hze]; simp
  refine ⟨ρ ++ [L], .slice (some ⟨w.heap.size, 0, none⟩) len len, _, ?_, List.prefix_append _ _, ?_, hH⟩
  · have hnl : ¬ (2 ^ 24 < len * i.size) := by omega
    by_cases h0 : len * i.size = 0
    · rw [if_pos h0] at hz
      subst hz
      simp only [h0] at hf
      have hf' : Instr.fill (fun j => some (j * i.size, i.size)) #[] parts.toList = some c' := by simpa [Array.range_zero'] using hf
      simp [Instr.buildSlice, run_underlying ht, sizeOf, typeInfo, hi, h0, hf', newRow, newObj, Sem.run, Array.range_zero']
    · rw [if_neg h0] at hz
      obtain ⟨zz, hzz, rfl⟩ := hz
      have hnl' : ¬ (16777216 < len * i.size) := by omega
      simp [Instr.buildSlice, run_underlying ht, sizeOf, typeInfo, zeroValue, hi, hzz, h0, hnl', hf, newRow, newObj, Sem.run]
  · rw [← hb]
    exact sl_new h (Nat.le_refl _) (.inl rfl) hoff (by rw [hs, he]; simp [Program.cellsOf, hi, hlen])

theorem madeCells_zeros (z : Array Value) (n : Nat) : (madeCells z (n * z.size)).toList = zeros z.toList n := by
  induction n with
  | zero => simp [madeCells, zeros]
  | succ n ih =>
    have e : (madeCells z ((n + 1) * z.size)).toList = (madeCells z (n * z.size)).toList ++ z.toList := by
      apply List.ext_getElem?
      intro j
      have hs : (madeCells z (n * z.size)).toList.length = n * z.size := by simp [madeCells]
      have hmul : (n + 1) * z.size = n * z.size + z.size := by rw [Nat.add_mul]; simp
      rcases Nat.lt_or_ge j (n * z.size) with h | h
      · rw [List.getElem?_append_left (by rw [hs]; exact h)]
        simp [madeCells, h, (by omega : j < (n + 1) * z.size)]
      · rw [List.getElem?_append_right (by rw [hs]; exact h), hs]
        rcases Nat.lt_or_ge j ((n + 1) * z.size) with h2 | h2
        · have hm : j % z.size = j - n * z.size := by
            have hc : n * z.size = z.size * n := Nat.mul_comm _ _
            have : j = (j - n * z.size) + z.size * n := by omega
            rw [this, Nat.add_mul_mod_self_left, Nat.mod_eq_of_lt (by omega)]; omega
          have hlt : j - n * z.size < z.size := by omega
          simp [madeCells, h2, hm, hlt]
        · rw [List.getElem?_eq_none (by simp [madeCells]; omega), List.getElem?_eq_none (by simp; omega)]
    rw [e, ih]
    simp [zeros, List.replicate_succ', List.flatten_append]

theorem zeros_length (z : List Value) (n : Nat) : (zeros z n).length = n * z.length := by
  induction n with
  | zero => simp [zeros]
  | succ n ih => simp only [zeros, List.replicate_succ', List.flatten_append, List.length_append] at ih ⊢; rw [ih, Nat.add_mul]; simp

theorem VL.zeros {z z' : List Value} (h : VL P ρ z z') (n : Nat) : VL P ρ (K.zeros z n) (K.zeros z' n) := by
  induction n with
  | zero => exact VL.nil
  | succ n ih => simp only [K.zeros, List.replicate_succ', List.flatten_append] at ih ⊢; exact ih.append (by simpa using h)
theorem oneC_zeros {z : List Value} (h : ∀ x ∈ z, oneC x = true) (n : Nat) : ∀ x ∈ zeros z n, oneC x = true := by
  intro x hx
  simp only [zeros, List.mem_flatten, List.mem_replicate] at hx
  obtain ⟨l, ⟨_, rfl⟩, hx⟩ := hx
  exact h x hx

theorem mks_ok {t e : TypeId} {i : TypeInfo} {z : Value} (ht : P.underlying t = some (.slice e)) (hi : P.info? e = some i) (hz : i.zero = some z) (hzs : z.cells.size = i.size)
    (hg : VL P [] z.cells.toList z.cells.toList) (hoz : ∀ x ∈ z.cells.toList, oneC x = true) (h : HRel P B w0 ρ H w) {l l' c c' v : Value} {H' : Heap} (hl : VRel P ρ l l') (hc : VRel P ρ c c')
    (hk : kMks H e z.cells.toList i.bytes l c = some (v, H')) : Gives P B w0 ρ (Instr.makeSlice t l' c') w v H' := by
  unfold kMks at hk
  split at hk
  · rename_i kl l kc c
    cases hl; cases hc
    split at hk
    · rename_i hcond
      obtain ⟨h0, hlc, h63, hb⟩ := hcond
      simp only [Option.some.injEq, Prod.mk.injEq] at hk
      obtain ⟨rfl, rfl⟩ := hk
      have hr := run_make (P := P) w t e i z ht hi hz kl kc l c h0 hlc hb h63
      have hme : (madeCells z.cells (c.toNat * i.size)).toList = zeros z.cells.toList c.toNat := by rw [← hzs]; exact madeCells_zeros _ _
      obtain ⟨L, hH, hbk, hoff, he, hs⟩ := newVar_ok (t := e) h ((hg.mono (List.nil_prefix (l := ρ))).zeros c.toNat) (oneC_zeros hoz c.toNat)
      rw [← hme, Array.toArray_toList] at hH
      rw [hme] at hH
      refine ⟨ρ ++ [L], _, _, hr, List.prefix_append _ _, ?_, hH⟩
      rw [← hbk]
      exact sl_new h (by omega) (.inl rfl) hoff (by rw [hs, he, zeros_length]; simp [Program.cellsOf, hi, hzs])
    · cases hk
  · cases hk

/- APPEND -/
theorem kRow_inv {t : TypeId} {esz n c : Nat} {a : Option Addr} {x' : Value} {l : List Value} (h : HRel P B w0 ρ H w) (hx : VRel P ρ (.slice a n c) x') (hr : kRow H t esz n a = some l) :
    l.length = n * esz ∧ ∃ a' c', x' = .slice a' n c' ∧ ∃ l', VL P ρ l l' ∧ l'.length = n * esz ∧ (∀ x ∈ l, oneC x = true) ∧
      ((a' = none ∧ n = 0) ∨ ∃ b', a' = some b' ∧ ∀ (j : Nat) v, l'[j]? = some v → w.cell? (b'.add j) = some v) := by
  unfold kRow at hr
  cases hx with
  | snil =>
    simp at hr; subst hr
    exact ⟨by simp, none, 0, rfl, [], VL.nil, by simp, by simp, .inl ⟨rfl, rfl⟩⟩
  | sl hL hn hc hs =>
    simp only at hr
    split at hr
    · rename_i cs t' rw hg
      split at hr
      · obtain ⟨l', hv, hl', ho, _, hcell⟩ := row_at h hg hL hr
        exact ⟨rd_length hr, _, _, rfl, l', hv, hl', ho, .inr ⟨_, rfl, fun j v hj => by rw [Addr.add_lit]; exact hcell j v hj⟩⟩
      · cases hr
    · cases hr
  | sl0 =>
    simp only at hr
    split at hr
    · split at hr
      · have hl := rd_length hr
        have : l = [] := List.eq_nil_of_length_eq_zero (by simpa using hl)
        subst this
        exact ⟨by simp, _, _, rfl, [], VL.nil, by simp, by simp, .inr ⟨_, rfl, fun j v hj => by simp at hj⟩⟩
      · cases hr
    · cases hr

/-- a thing that is appended: a slice, or a string -/
def AppKind (P : Program) (xt : TypeId) : Prop := (∃ e, P.underlying xt = some (.slice e)) ∨ P.underlying xt = some .string

/-- what the model's append does, where what is appended is known cell by cell -/
theorem run_append_room' {t xt ty e : TypeId} {i : TypeInfo} {m : Nat} {x' : Value} {news : List Value} (ht : P.underlying t = some (.slice e)) (hd : AppKind P xt) (hi : P.info? e = some i)
    (hlen : (Builtin.lenOf x').run P w = .ok m w) (hnews : (Builtin.firstCells i.size m x').run P w = .ok news.toArray w) (a : Addr) (n c : Nat) (hroom : n + m ≤ c) {w' : World}
    (hst : (storeCells (a.add (n * i.size)) news).run P w = .ok () w') :
    (Builtin.append_ #[t, xt] ty #[.slice (some a) n c, x']).run P w = .ok (.slice (some a) (n + m) c) w' := by
  rcases hd with ⟨e2, hd⟩ | hd <;> simp [Builtin.append_, run_underlying ht, run_underlying hd, sizeOf, typeInfo, hi, hlen, hroom, hnews, hst]

theorem run_append_none' {t xt ty e : TypeId} {i : TypeInfo} {x' : Value} (ht : P.underlying t = some (.slice e)) (hd : AppKind P xt) (hi : P.info? e = some i)
    (hlen : (Builtin.lenOf x').run P w = .ok 0 w) (hnews : (Builtin.firstCells i.size 0 x').run P w = .ok #[] w) :
    (Builtin.append_ #[t, xt] ty #[.slice none 0 0, x']).run P w = .ok (.slice none 0 0) w := by
  rcases hd with ⟨e2, hd⟩ | hd <;> simp [Builtin.append_, run_underlying ht, run_underlying hd, sizeOf, typeInfo, hi, hlen, hnews]

theorem run_append_grow' {t xt ty e : TypeId} {i : TypeInfo} {z : Value} {m : Nat} {x' : Value} {olds news : List Value} (ht : P.underlying t = some (.slice e)) (hd : AppKind P xt) (hi : P.info? e = some i) (hz : i.zero = some z)
    (hlen : (Builtin.lenOf x').run P w = .ok m w) (hnews : (Builtin.firstCells i.size m x').run P w.drew = .ok news.toArray w.drew) (a : Option Addr) (n c : Nat) (hroom : c < n + m)
    (holds : (Builtin.firstCells i.size n (.slice a n c)).run P w.drew = .ok olds.toArray w.drew) (hb : (n + m) * i.bytes ≤ roomMax) (hm : n + m ≤ roomMax) :
    (Builtin.append_ #[t, xt] ty #[.slice a n c, x']).run P w = .ok (.slice (some ⟨w.heap.size, 0, none⟩) (n + m) (grownCap w (n + m) c e))
      (w.drew.alloc (.cells (olds.toArray ++ news.toArray ++ Builtin.zeroCells z.cells (grownCap w (n + m) c e - (n + m))) e)) := by
  have hn : ¬ (n + m ≤ c) := by omega
  have h63' : ¬ (9223372036854775807 < ((n : Int) + (m : Int))) := by simp only [roomMax] at hm; omega
  have h48' : ¬ (281474976710656 < Builtin.nextslicecap (n + m) c * i.bytes) := by have := growslice_fits hroom (bytes := i.bytes) (by simpa [roomMax] using hb); omega
  rcases hd with ⟨e2, hd⟩ | hd <;>
    (simp [Builtin.append_, run_underlying ht, run_underlying hd, sizeOf, typeInfo, zeroValue, hi, hz, hlen, hn, h63', h48', Question.forced, hnews, holds, newRow, grownCap]
     try (congr 2
          apply Array.ext'
          simp [List.append_assoc]))

theorem own_alone (h : HRel P B w0 ρ H w) {b : Nat} {L : Loc} (hL : ρ[b]? = some L) (ho : (H.get b).own = true) :
    ∀ (b' : Nat) L', ρ[b']? = some L' → ((H.put b .dead).get b').live = true → L'.block ≠ L.block := by
  intro b' L' hb' hl
  rw [Heap.get_put] at hl
  split at hl
  · cases hl
  · rename_i hne
    have hlt : b < H.next := Heap.lt_of_live (own_live ho)
    have hbb : b ≠ b' := fun e => hne ⟨e.symm, hlt⟩
    exact fun e => h.inj b b' L L' hL hb' hbb ho hl e.symm

theorem app_ok {t xt ty e : TypeId} {i : TypeInfo} {z : Value} {m : Nat} {x' s s' v : Value} {news news' : List Value} {H' : Heap} (ht : P.underlying t = some (.slice e)) (hd : AppKind P xt) (hi : P.info? e = some i) (hz : i.zero = some z) (hzs : z.cells.size = i.size) (h : HRel P B w0 ρ H w) (hs : VRel P ρ s s')
    (hlen : ∀ w, (Builtin.lenOf x').run P w = .ok m w) (hnews : (Builtin.firstCells i.size m x').run P w = .ok news'.toArray w) (hnews2 : (Builtin.firstCells i.size m x').run P w.drew = .ok news'.toArray w.drew)
    (hv : VL P ρ news news') (hnl : news.length = m * i.size) (ho : ∀ x ∈ news, oneC x = true) (hk : kApp H e i.size i.bytes s m news = some (v, H')) :
    Gives P B w0 ρ (Builtin.append_ #[t, xt] ty #[s', x']) w v H' := by
  have hcells : P.cellsOf e = i.size := by simp [Program.cellsOf, hi]
  -- a row that is moved: what it is, and how it stands
  have moved : ∀ (H1 : Heap) (olds olds' : List Value) (a : Option Addr) (n c : Nat), HRel P B w0 ρ H1 w → H1.next = H.next → VL P ρ olds olds' → (∀ x ∈ olds, oneC x = true) → olds.length = n * i.size → c < n + m →
      (Builtin.firstCells i.size n (.slice a n c)).run P w.drew = .ok olds'.toArray w.drew → (n + m) * i.bytes ≤ roomMax → n + m ≤ roomMax →
      Gives P B w0 ρ (Builtin.append_ #[t, xt] ty #[.slice a n c, x']) w (.slice (some ⟨H.next, 0, none⟩) (n + m) capx) (H1.push (.cells (olds ++ news) e true)) := by
    intro H1 olds olds' a n c h1 hn1 hvo hoo hol hroom holds hb hm
    have hr := run_append_grow' (ty := ty) (olds := olds') (news := news') ht hd hi hz (hlen w) hnews2 a n c hroom holds hb hm
    have hge := grownCap_ge w (n + m) c e
    have e1 : olds'.toArray ++ news'.toArray ++ Builtin.zeroCells z.cells (grownCap w (n + m) c e - (n + m)) = ((olds' ++ news') ++ (Builtin.zeroCells z.cells (grownCap w (n + m) c e - (n + m))).toList).toArray := by simp
    rw [e1] at hr
    have hlt : (olds' ++ news').length = (n + m) * i.size := by rw [List.length_append, ← hvo.1, ← hv.1, hol, hnl, Nat.add_mul]
    have hH := new_row (rw := true) (t := e) h1.drew (hvo.append hv) (fun x hx => (List.mem_append.1 hx).elim (hoo x) (ho x)) (Builtin.zeroCells z.cells (grownCap w (n + m) c e - (n + m))).toList
    refine ⟨_, _, _, hr, List.prefix_append _ _, ?_, hH⟩
    have := sl_new (L := ⟨w.drew.heap.size, 0, (olds' ++ news').length + (Builtin.zeroCells z.cells (grownCap w (n + m) c e - (n + m))).toList.length, e⟩) h1.drew (n := n + m) (c := capx) (c' := grownCap w (n + m) c e) hge (.inr rfl) rfl (by
      simp only [hcells, hlt, Array.length_toList, size_zeroCells, hzs, ← Nat.add_mul]
      exact Nat.le_of_eq (by congr 1; omega))
    rw [hn1] at this
    exact this
  unfold kApp at hk
  split at hk
  · -- nil
    rename_i n c
    cases hs
    split at hk
    · rename_i hc
      obtain ⟨_, _, hb, hm⟩ := hc
      split at hk
      · rename_i hm0
        subst hm0
        simp only [Option.some.injEq, Prod.mk.injEq] at hk
        obtain ⟨rfl, rfl⟩ := hk
        have hn' : news' = [] := List.eq_nil_of_length_eq_zero (by rw [← hv.1, hnl]; simp)
        subst hn'
        exact Gives.same h (run_append_none' ht hd hi (hlen w) hnews) .snil
      · rename_i hm0
        simp only [Option.some.injEq, Prod.mk.injEq] at hk
        obtain ⟨rfl, rfl⟩ := hk
        have := moved H [] [] none 0 0 h rfl VL.nil (by simp) (by simp) (by omega) (by simp [Builtin.firstCells]) (by simpa using hb) (by simpa using hm)
        simpa using this
    · cases hk
  · rename_i a n c
    split at hk
    · rename_i cs t' rw hg
      split at hk
      · rename_i hc
        obtain ⟨rfl, hb, hm⟩ := hc
        split at hk
        · rename_i hcx
          subst hcx
          split at hk
          · -- nothing is appended
            rename_i hm0
            subst hm0
            simp only [Option.some.injEq, Prod.mk.injEq] at hk
            obtain ⟨rfl, rfl⟩ := hk
            have hn' : news' = [] := List.eq_nil_of_length_eq_zero (by rw [← hv.1, hnl]; simp)
            subst hn'
            cases hs with
            | sl hL hn hc hsz =>
              rename_i b off c' L
              have := run_append_room' (ty := ty) (news := []) ht hd hi (hlen w) hnews ⟨L.block, L.off + off, none⟩ n c' (by simpa using hn) (w' := w) (by simp [storeCells])
              exact Gives.same h this (.sl hL hn hc hsz)
            | sl0 =>
              rename_i a'
              have := run_append_room' (ty := ty) (news := []) ht hd hi (hlen w) hnews a' 0 0 (by simp) (w' := w) (by simp [storeCells])
              exact Gives.same h this .sl0
          · rename_i hm0
            split at hk
            · rename_i hrw
              cases hrd : rd cs a.off (n * i.size) with
              | none => simp [hrd] at hk
              | some olds =>
                simp only [hrd, Option.map_some, Option.some.injEq, Prod.mk.injEq] at hk
                obtain ⟨rfl, rfl⟩ := hk
                have hown : (H.get a.block).own = true := by rw [hg]; exact hrw
                cases hs with
                | sl0 =>
                  rename_i b off a'
                  have hol : olds = [] := List.eq_nil_of_length_eq_zero (by have := rd_length hrd; simpa using this)
                  subst hol
                  have := moved (H.put b .dead) [] [] (some a') 0 0 (h.kill b) (Heap.next_put _ _ _) VL.nil (by simp) (by simp) (by omega) (by simp [Builtin.firstCells, loadCells, loadCellsFrom]) hb hm
                  simpa using this
                | sl hL hn hc hsz =>
                  rename_i b off c' L
                  simp only at hg hown hrd
                  obtain ⟨olds', hvo, hol', hoo, hoo', hcell⟩ := row_at h hg hL hrd
                  have hole := rd_length hrd
                  rcases Nat.lt_or_ge c' (n + m) with hlt | hge
                  · exact moved (H.put b .dead) olds olds' _ n c' (h.kill b) (Heap.next_put _ _ _) hvo hoo hole hlt (by
                      have := run_firstCells_some (P := P) w.drew i.size n ⟨L.block, L.off + off, none⟩ n c' olds' hol' (fun j v hj => by rw [Addr.add_lit]; exact hcell j v hj)
                      exact this) hb hm
                  · -- in its place
                    obtain ⟨he, arr, tw, fr, h2, hsz2, hle, h5, h6⟩ := cells_inv h hg hL
                    have hfit : L.off + off + (n + m) * i.size ≤ arr.size := by
                      rw [hsz2]
                      have : (n + m) * i.size ≤ c' * i.size := Nat.mul_le_mul_right _ hge
                      rw [he, hcells] at hsz
                      omega
                    have ho' : ∀ y ∈ news', oneC y = true := by
                      intro y hy
                      obtain ⟨j, hj⟩ := List.mem_iff_getElem?.1 hy
                      have hlt : j < news.length := by rw [hv.1]; exact (List.getElem?_eq_some_iff.1 hj).1
                      rw [(hv.2 j _ y (List.getElem?_eq_getElem hlt) hj).oneC_eq]; exact ho _ (List.getElem_mem hlt)
                    have hmul : (n + m) * i.size = n * i.size + m * i.size := Nat.add_mul _ _ _
                    have hst := run_storeRow (P := P) L.block (L.off + off + n * i.size) tw fr news' 0 arr w h2 (by rw [← hv.1, hnl]; omega) ho' (h6 hrw)
                    have hr := run_append_room' (ty := ty) (news := news') ht hd hi (hlen w) hnews ⟨L.block, L.off + off, none⟩ n c' hge (by rw [Addr.add_lit]; exact hst)
                    have hB : B ≤ L.block := h.own b L hL hown
                    refine ⟨ρ ++ [⟨L.block, L.off + off, L.size, t'⟩], _, _, hr, List.prefix_append _ _, ?_, ?_⟩
                    · have hnx : (ρ ++ [(⟨L.block, L.off + off, L.size, t'⟩ : Loc)])[H.next]? = some ⟨L.block, L.off + off, L.size, t'⟩ := new_last h _
                      have := VRel.sl (P := P) (off := 0) (n := n + m) (c := capx) (c' := c') hnx hge (.inr rfl) (by rw [he] at hsz; simpa using hsz)
                      simpa using this
                    · refine (h.kill b).push_at hB (fun b' L' hb' hl => own_alone (L := L) h hL hown b' L' hb' hl) (Below.setRow hB _) (fun j hj _ => setRow_other w _ _ _ hj) ?_
                      have hsz' : (arr.toList.take (L.off + off + n * i.size + 0) ++ news' ++ arr.toList.drop (L.off + off + n * i.size + 0 + news'.length)).length = arr.size := by
                        simp only [List.length_append, List.length_take, List.length_drop, Array.length_toList, ← hv.1, hnl]; omega
                      refine ⟨rfl, _, tw, fr, setRow_heap w _ arr _ tw fr h2, by simpa [hsz2] using hsz', ?_, ?_, fun _ j hj => h6 hrw j (by rw [List.size_toArray, hsz'] at hj; exact hj)⟩
                      · rw [List.size_toArray, hsz', List.length_append, hole, hnl, ← hmul]; exact hfit
                      · intro j x hx
                        have hwr := wr_get (c := arr.toList) (vs := news') (off := L.off + off + n * i.size) (by rw [← hv.1, hnl]; simp; omega) (L.off + off + j)
                        have hy : ((arr.toList.take (L.off + off + n * i.size + 0) ++ news' ++ arr.toList.drop (L.off + off + n * i.size + 0 + news'.length)).toArray)[L.off + off + j]? =
                            (wr arr.toList (L.off + off + n * i.size) news')[L.off + off + j]? := by simp [wr]
                        rw [hy, hwr]
                        rcases Nat.lt_or_ge j olds.length with hjl | hjg
                        · rw [List.getElem?_append_left hjl] at hx
                          rw [if_neg (by omega)]
                          obtain ⟨y, hyy, hvv⟩ := hvo.get hx
                          refine ⟨hoo x (List.mem_of_getElem? hx), y, ?_, hvv.mono (List.prefix_append _ _)⟩
                          have hc2 := hcell j y hyy
                          simp only [World.cell?, h2] at hc2
                          simpa using hc2
                        · rw [List.getElem?_append_right hjg] at hx
                          have hjn : j - olds.length < news.length := (List.getElem?_eq_some_iff.1 hx).1
                          rw [if_pos (by rw [← hv.1]; omega)]
                          obtain ⟨y, hyy, hvv⟩ := hv.get hx
                          refine ⟨ho x (List.mem_of_getElem? hx), y, ?_, hvv.mono (List.prefix_append _ _)⟩
                          rw [← hyy]; congr 1; omega
            · cases hk
        · rename_i hcx
          have hcc : ∀ {b off c' : Nat} {L : Loc}, (c' = c ∨ c = capx) → c' = c := fun h => h.resolve_right hcx
          cases hs with
          | sl0 => exact absurd rfl hcx
          | sl hL hn hc hsz =>
            rename_i b off c' L
            obtain rfl : c' = c := hc.resolve_right hcx
            simp only at hg hk
            split at hk
            · rename_i hroom
              split at hk
              · rename_i hm0
                subst hm0
                simp only [Option.some.injEq, Prod.mk.injEq] at hk
                obtain ⟨rfl, rfl⟩ := hk
                have hn' : news' = [] := List.eq_nil_of_length_eq_zero (by rw [← hv.1, hnl]; simp)
                subst hn'
                have := run_append_room' (ty := ty) (news := []) ht hd hi (hlen w) hnews ⟨L.block, L.off + off, none⟩ n c' (by simpa using hn) (w' := w) (by simp [storeCells])
                exact Gives.same h this (.sl hL hn (.inl rfl) hsz)
              · split at hk
                · rename_i hcond
                  simp only [Bool.and_eq_true, decide_eq_true_eq] at hcond
                  obtain ⟨hrw, hfit⟩ := hcond
                  subst hrw
                  simp only [Option.some.injEq, Prod.mk.injEq] at hk
                  obtain ⟨rfl, rfl⟩ := hk
                  have hmul : (n + m) * i.size = n * i.size + m * i.size := Nat.add_mul _ _ _
                  obtain ⟨w', hst, hH⟩ := store_row (vs := news) (vs' := news') h hg hL (off := off + n * i.size) (by rw [hnl]; omega) hv ho
                  have hr := run_append_room' (ty := ty) (news := news') ht hd hi (hlen w) hnews ⟨L.block, L.off + off, none⟩ n c' hroom (by rw [Addr.add_lit, Nat.add_assoc]; exact hst)
                  exact ⟨ρ, _, w', hr, List.prefix_refl _, .sl hL hroom (.inl rfl) hsz, hH⟩
                · cases hk
            · rename_i hroom
              cases hrd : rd cs off (n * i.size) with
              | none => simp [hrd] at hk
              | some olds =>
                simp only [hrd, Option.map_some, Option.some.injEq, Prod.mk.injEq] at hk
                obtain ⟨rfl, rfl⟩ := hk
                obtain ⟨olds', hvo, hol', hoo, hoo', hcell⟩ := row_at h hg hL hrd
                exact moved H olds olds' _ n c' h rfl hvo hoo (rd_length hrd) (by omega) (by
                      have := run_firstCells_some (P := P) w.drew i.size n ⟨L.block, L.off + off, none⟩ n c' olds' hol' (fun j v hj => by rw [Addr.add_lit]; exact hcell j v hj)
                      exact this) hb hm
      · cases hk
    · cases hk
  · cases hk

end
end Go.Proofs.Ytlboioplemlneaa.K
