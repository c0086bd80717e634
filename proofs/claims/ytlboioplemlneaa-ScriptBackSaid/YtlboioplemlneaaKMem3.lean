/- More of K's operations: copy, bytes and strings, cuts, places of elements and fields, equality. -/
import Derived.Test.YtlboioplemlneaaKMem2
import Derived.Laws.StructEq
import Derived.Laws.BytesArg
set_option linter.unusedVariables false
set_option linter.unusedSimpArgs false
namespace Go.Proofs.Ytlboioplemlneaa.K
open Go Go.RowKit

section
variable {P : Program} {B : Nat} {w0 w : World} {ρ : Rho} {H : Heap}

theorem VL.eq_of {xs ys : List Value} (h : VL P ρ xs ys) (he : ∀ x ∈ xs, ∀ y, VRel P ρ x y → y = x) : ys = xs := by
  apply List.ext_getElem?
  intro i
  cases hx : xs[i]? with
  | none => rw [List.getElem?_eq_none_iff] at hx ⊢; rw [← h.1]; exact hx
  | some x => obtain ⟨y, hy, hv⟩ := h.get hx; rw [hy, he x (List.mem_of_getElem? hx) y hv]

theorem Heap.put_self (H : Heap) (b : Nat) : H.put b (H.get b) = H := by
  induction H generalizing b with
  | nil => rfl
  | cons x H ih => cases b <;> simp [Heap.put, Heap.get, ih]

/- COPY -/
theorem cpy_ok {t xt ty e : TypeId} {i : TypeInfo} (ht : P.underlying t = some (.slice e)) (hi : P.info? e = some i) (h : HRel P B w0 ρ H w) {n c m c2 : Nat} {a b : Option Addr} {x' y' v : Value} {H' : Heap}
    (hx : VRel P ρ (.slice a n c) x') (hy : VRel P ρ (.slice b m c2) y')
    (hk : ((kRow H e i.size (min m n) b).bind fun l => match a with
        | none => some (Value.int .i64 (min m n : Nat), H)
        | some a => match H.get a.block with
          | .cells c t' true => if t' = e && decide (a.off + l.length ≤ c.length) then some (.int .i64 (min m n : Nat), H.put a.block (.cells (wr c a.off l) t' true)) else none
          | _ => none) = some (v, H')) : Gives P B w0 ρ (Builtin.copy_ #[t, xt] ty #[x', y']) w v H' := by
  cases hr : kRow H e i.size (min m n) b with
  | none => simp [hr] at hk
  | some l =>
    simp only [hr, Option.bind_some] at hk
    have hy2 : ∃ x2, VRel P ρ (.slice b (min m n) c2) x2 ∧ ∃ b' cc mm, y' = .slice b' m cc ∧ x2 = .slice b' (min m n) mm := by
      cases hy with
      | snil => exact ⟨_, by simp; exact .snil, none, 0, 0, rfl, by simp⟩
      | sl hL hn hc hs => exact ⟨_, .sl hL (by omega) hc hs, _, _, _, rfl, rfl⟩
      | sl0 =>
        rename_i bb oo aa
        exact ⟨.slice (some aa) 0 0, by simpa using VRel.sl0 (P := P) (ρ := ρ) (b := bb) (off := oo) (a' := aa), some aa, 0, 0, rfl, by simp⟩
    obtain ⟨x2, hx2, b', cc, mm, rfl, rfl⟩ := hy2
    obtain ⟨hll, a2, c', he2, l', hv, hl', ho, hcell⟩ := kRow_inv h hx2 hr
    injection he2 with e1 e2 e3
    subst e1
    have hf : (Builtin.firstCells i.size (min m n) (.slice b' m cc)).run P w = .ok l'.toArray w := by
      rcases hcell with ⟨rfl, h0⟩ | ⟨b2, rfl, hc2⟩
      · have : l' = [] := List.eq_nil_of_length_eq_zero (by rw [hl', h0]; simp)
        subst this
        simp [Builtin.firstCells]
      · exact run_firstCells_some (P := P) w i.size (min m n) b2 m cc l' hl' hc2
    have hmin : Nat.min m n = min m n := rfl
    cases hx with
    | snil =>
      simp only [Option.some.injEq, Prod.mk.injEq] at hk
      obtain ⟨rfl, rfl⟩ := hk
      refine Gives.same h ?_ (.int _ _)
      simp only [Nat.min_zero] at hf ⊢
      simp [Builtin.copy_, run_underlying ht, Builtin.lenOf, sizeOf, typeInfo, hi, hf, goInt]
    | sl0 =>
      rename_i bb oo aa
      simp only at hk
      split at hk
      · rename_i cs t' hg
        split at hk
        · rename_i hcond
          simp only [Bool.and_eq_true, decide_eq_true_eq] at hcond
          simp only [Option.some.injEq, Prod.mk.injEq] at hk
          obtain ⟨rfl, rfl⟩ := hk
          have hl0 : l = [] := List.eq_nil_of_length_eq_zero (by rw [hll]; simp)
          have hl0' : l' = [] := List.eq_nil_of_length_eq_zero (by rw [hl']; simp)
          subst hl0; subst hl0'
          have hput : H.put bb (.cells (wr cs oo []) t' true) = H := by
            have : wr cs oo [] = cs := by simp [wr]
            rw [this, ← hg, Heap.put_self]
          simp only [hput]
          refine Gives.same h ?_ (.int _ _)
          simp only [hmin] at *
          simp at hf
          simp [Builtin.copy_, run_underlying ht, Builtin.lenOf, sizeOf, typeInfo, hi, hf, goInt, storeCells]
        · cases hk
      · cases hk
    | sl hL hn hc hs =>
      rename_i bb oo c' L
      simp only at hk
      split at hk
      · rename_i cs t' hg
        split at hk
        · rename_i hcond
          simp only [Bool.and_eq_true, decide_eq_true_eq] at hcond
          simp only [Option.some.injEq, Prod.mk.injEq] at hk
          obtain ⟨rfl, rfl⟩ := hk
          obtain ⟨w', hst, hH⟩ := store_row (vs := l) (vs' := l') h hg hL (off := oo) hcond.2 hv ho
          refine ⟨ρ, _, w', ?_, List.prefix_refl _, .int _ _, hH⟩
          simp only [hmin] at *
          simp [Builtin.copy_, run_underlying ht, Builtin.lenOf, sizeOf, typeInfo, hi, hf, goInt, hst, hmin]
        · cases hk
      · cases hk

/- BYTES AND STRINGS -/
theorem kBytes_inv {l : List Value} : ∀ {bs : List UInt8}, kBytes l = some bs → ∃ ns : List Int, l = ns.map (Value.int .u8) ∧ bs = ns.map fun n => UInt8.ofNat n.toNat := by
  induction l with
  | nil => intro bs h; exact ⟨[], rfl, by simpa [kBytes] using h.symm⟩
  | cons v l ih =>
    intro bs h
    cases v with
    | int k n =>
      cases k with
      | u8 =>
        simp only [kBytes] at h
        cases hb : kBytes l with
        | none => simp [hb] at h
        | some bs' =>
          simp [hb] at h
          obtain ⟨ns, rfl, rfl⟩ := ih hb
          exact ⟨n :: ns, rfl, by simpa using h.symm⟩
      | _ => simp [kBytes] at h
    | _ => simp [kBytes] at h

theorem b2s_ok {src dst e : TypeId} (hs : P.underlying src = some (.slice e)) (he : P.underlying e = some (.int .u8)) (hd : P.underlying dst = some .string) (h : HRel P B w0 ρ H w)
    {a : Option Addr} {n c : Nat} {x' : Value} {l : List Value} {bs : List UInt8} (hx : VRel P ρ (.slice a n c) x') (hr : kRow H e 1 n a = some l) (hb : kBytes l = some bs) :
    Gives P B w0 ρ (convert src dst x') w (.string ⟨bs.toArray⟩) H := by
  obtain ⟨hll, a2, c', rfl, l', hv, hl', ho, hcell⟩ := kRow_inv h hx hr
  obtain ⟨ns, rfl, rfl⟩ := kBytes_inv hb
  have hle : l' = ns.map (Value.int .u8) := hv.eq_of (fun x hx y hy => by
    obtain ⟨n, _, rfl⟩ := List.mem_map.1 hx
    cases hy; rfl)
  subst hle
  refine Gives.same h (v' := .string ⟨(ns.map fun n => UInt8.ofNat n.toNat).toArray⟩) ?_ (.string _)
  rw [run_convert_bytes_string w src dst e _ _ _ hs he hd]
  rcases hcell with ⟨rfl, h0⟩ | ⟨b2, rfl, hc2⟩
  · have hn0 : ns = [] := by
      have : ns.length = 0 := by have := hl'; simp at this; omega
      exact List.eq_nil_of_length_eq_zero this
    subst hn0
    simp [Conv.bytesToString]
    rfl
  · have hlc := run_loadCells_list (P := P) w b2 _ hc2
    rw [hl', Nat.mul_one] at hlc
    rw [run_bytesToString w b2 n c' ns hlc, foldl_push_bytes]
    simp

theorem VL.bytes (s : ByteArray) : VL P ρ (byteVals s) (byteVals s) :=
  ⟨rfl, fun i x y hx hy => by
    rw [hx] at hy; cases hy
    simp only [byteVals, List.getElem?_map] at hx
    cases hs : s.data.toList[i]? with
    | none => simp [hs] at hx
    | some b => simp [hs] at hx; subst hx; exact .int _ _⟩
theorem oneC_bytes (s : ByteArray) : ∀ x ∈ byteVals s, oneC x = true := by
  intro x hx
  simp only [byteVals, List.mem_map] at hx
  obtain ⟨b, _, rfl⟩ := hx
  rfl
theorem byteVals_length (s : ByteArray) : (byteVals s).length = s.size := by simp [byteVals]

theorem heap_freeze (w : World) (g n k : Nat) (i : Nat) (hi : i ≠ g) : (w.freeze ⟨g, n, none⟩ k).heap[i]? = w.heap[i]? := by
  unfold World.freeze
  split
  · rfl
  · simp only [Array.getElem?_modify]; rw [if_neg (fun e => hi e.symm)]

theorem s2b_ok {src dst e : TypeId} {i : TypeInfo} {d : TypeDesc} (hs : P.underlying src = some d) (hdst : P.underlying dst = some (.slice e)) (he : P.underlying e = some (.int .u8)) (hi : P.info? e = some i) (h1 : i.size = 1)
    (h : HRel P B w0 ρ H w) (s : ByteArray) (hsz : s.size ≤ roomMax) :
    Gives P B w0 ρ (convert src dst (.string s)) w (.slice (some ⟨H.next, 0, none⟩) s.size capx) (H.push (.cells (byteVals s) e true)) := by
  have hge := grownCap_ge w s.size 0 e
  have hcells : P.cellsOf e = 1 := by simp [Program.cellsOf, hi, h1]
  obtain ⟨arr, harr⟩ : ∃ arr : Array Value, arr = ((byteVals s) ++ List.replicate (grownCap w s.size 0 e - s.size) (Value.int .u8 0)).toArray := ⟨_, rfl⟩
  have hasz : arr.size = grownCap w s.size 0 e := by rw [harr]; simp [byteVals_length]; omega
  have hrun : (convert src dst (.string s)).run P w = .ok (.slice (some ⟨w.heap.size, 0, none⟩) s.size (grownCap w s.size 0 e)) ((w.drew.alloc (.cells arr e)).freeze ⟨w.heap.size, arr.size, none⟩ 1) := by
    have e1 : (s.data.map fun b => Value.int .u8 b.toNat) ++ Array.replicate (grownCap w s.size 0 e - s.size) (Value.int .u8 0) = arr := by
      rw [harr]; apply Array.ext'; simp [byteVals]
    have hsh : (w.drew.alloc (.cells arr e)).shape? w.heap.size = some (e, arr.size) := by
      have h0 : (w.drew.alloc (.cells arr e)).heap[w.heap.size]? = some (.cells arr e) := heap_alloc_new w.drew _
      simp only [World.shape?, h0]
    have e2 : (Conv.stringToBytes e s).run P w = .ok (.slice (some ⟨w.heap.size, 0, none⟩) s.size (grownCap w s.size 0 e)) ((w.drew.alloc (.cells arr e)).freeze ⟨w.heap.size, arr.size, none⟩ 1) := by
      unfold grownCap at e1 ⊢
      simp only [Conv.stringToBytes, Sem.run_bind, choose, Sem.run, Question.forced, Bool.false_eq_true, if_false, Result.andThen, newRow, newObj, Sem.run_pure, markStringish, shape, freeze, World.drew_eq, World.alloc_eq, World.size_drew]
      rw [e1, hsh]
      rfl
    cases d <;> simp [convert, run_underlying hs, run_underlying hdst, run_underlying he, e2]
  refine ⟨ρ ++ [⟨w.heap.size, 0, arr.size, e⟩], _, _, hrun, List.prefix_append _ _, ?_, ?_⟩
  · exact sl_new h hge (.inr rfl) rfl (by simp [hcells, hasz])
  · have hnew : ((w.drew.alloc (.cells arr e)).freeze ⟨w.heap.size, arr.size, none⟩ 1).heap[w.heap.size]? = some (.cells arr e (arr.size, arr.size + 1)) := by
      have h0 : (w.drew.alloc (.cells arr e)).heap[w.heap.size]? = some (.cells arr e) := heap_alloc_new w.drew _
      simp only [World.freeze, Nat.succ_ne_zero, if_false, Array.getElem?_modify, if_true, h0, Option.map_some]
      simp
    have hold : ∀ j, j ≠ w.heap.size → j < w.heap.size → ((w.drew.alloc (.cells arr e)).freeze ⟨w.heap.size, arr.size, none⟩ 1).heap[j]? = w.heap[j]? := fun j hj hlt => by
      rw [heap_freeze _ _ _ _ _ hj]; exact Below.heap_alloc w.drew _ _ hlt
    refine h.push_at h.base (fun b L' hb hl e => by have := (h.blk b L' hb).lt hl; simp only at e; omega) ⟨rfl, rfl, rfl, ?_, fun k hk => hold k (by have := h.base; omega) (by have := h.base; omega)⟩ hold ?_
    · simp only [World.freeze]; split <;> simp
    · refine ⟨rfl, arr, e, _, hnew, rfl, by simp [byteVals_length, hasz]; omega, ?_, fun _ j hj => by simp; omega⟩
      intro j x hx
      refine ⟨oneC_bytes s x (List.mem_of_getElem? hx), x, ?_, (VL.bytes s).2 j x x hx hx⟩
      have hlt := (List.getElem?_eq_some_iff.1 hx).1
      rw [harr]
      simp [List.getElem?_append_left hlt, hx]

/- CUTS -/
def IsI (o : Option Value) (d l : Int) : Prop := (o = none ∧ l = d) ∨ ∃ k, o = some (.int k l)

theorem run_cut {t e : TypeId} {i : TypeInfo} (ht : P.underlying t = some (.slice e)) (hi : P.info? e = some i) (a : Option Addr) (len cap : Nat) (lo hi' : Option Value) (l h : Int)
    (hlo : IsI lo 0 l) (hhi : IsI hi' len h) (h0 : 0 ≤ l) (h1 : l ≤ h) (h2 : h ≤ cap) (w : World) :
    (Instr.sliceAt t (.slice a len cap) lo hi' none).run P w = .ok (sliced a l.toNat h.toNat cap i.size) w := by
  have eh : (h.toNat : Int) = h := Int.toNat_of_nonneg (by omega)
  have h3 : 0 ≤ h := by omega
  rcases hlo with ⟨rfl, rfl⟩ | ⟨kl, rfl⟩ <;> rcases hhi with ⟨rfl, rfl⟩ | ⟨kh, rfl⟩ <;>
    simp_all [Instr.sliceAt, Instr.slice, run_underlying ht, sizeOf, typeInfo, Instr.sliceBounds, run_sliceBound, sliced]

theorem slc_ok {t e : TypeId} {i : TypeInfo} (ht : P.underlying t = some (.slice e)) (hi : P.info? e = some i) (h : HRel P B w0 ρ H w) {x x' v : Value} (hx : VRel P ρ x x') {lo hi' : Option Value} {l : Int} {hh : Option Int}
    (hlo : IsI lo 0 l) (hhi : (hi' = none ∧ hh = none) ∨ ∃ k n, hi' = some (.int k n) ∧ hh = some n) (hk : kSlc H e i.size x l hh = some v) : Gives P B w0 ρ (Instr.sliceAt t x' lo hi' none) w v H := by
  have hhi' : ∀ n : Nat, IsI hi' n (hh.getD n) := by
    intro n
    rcases hhi with ⟨rfl, rfl⟩ | ⟨k, m, rfl, rfl⟩
    · exact .inl ⟨rfl, rfl⟩
    · exact .inr ⟨k, rfl⟩
  have hcells : P.cellsOf e = i.size := by simp [Program.cellsOf, hi]
  unfold kSlc at hk
  split at hk
  · rename_i n c
    cases hx
    split at hk
    · cases hk
    · split at hk
      · rename_i hc
        cases hk
        have := run_cut ht hi none 0 0 lo hi' l _ hlo (hhi' 0) hc.1 hc.2.1 hc.2.2 w
        refine Gives.same h this ?_
        have e1 : (hh.getD (0 : Nat)).toNat = 0 := by have := hc.2.2; have := hc.2.1; omega
        have e2 : ((hh.getD (0 : Nat)) - l).toNat = 0 := by have := hc.2.2; have := hc.2.1; omega
        simp only [sliced, e1, e2, Nat.zero_sub, Option.map_none, ite_self]
        exact .snil
      · cases hk
  · rename_i a n c
    split at hk
    · rename_i cs t' rw hg
      split at hk
      · rename_i het
        subst het
        split at hk
        · rename_i hcx
          subst hcx
          split at hk
          · rename_i hb
            cases hk
            cases hx with
            | sl0 =>
              rename_i b off a'
              have hb' : 0 ≤ l ∧ l ≤ hh.getD (0 : Nat) ∧ hh.getD (0 : Nat) ≤ (0 : Nat) := hb
              have := run_cut ht hi (some a') 0 0 lo hi' l _ hlo (hhi' 0) hb'.1 hb'.2.1 hb'.2.2 w
              refine Gives.same h this ?_
              have e0 : l = 0 := by omega
              have e1 : hh.getD (0 : Nat) = 0 := by omega
              subst e0
              simp only [sliced, e1, addOff]
              exact .sl0
            | sl hL hn hc hs =>
              rename_i b off c' L
              have := run_cut ht hi (some ⟨L.block, L.off + off, none⟩) n c' lo hi' l _ hlo (hhi' n) hb.1 hb.2.1 (by omega) w
              refine Gives.same h this ?_
              obtain ⟨h0, h1, h2⟩ := hb
              have hel : L.elem = t' := (cells_inv h hg hL).1
              simp only [sliced, addOff]
              by_cases hcl : c' = l.toNat
              · rw [if_pos hcl]
                have e1 : (hh.getD (n : Nat) - l).toNat = 0 := by omega
                have e2 : c' - l.toNat = 0 := by omega
                have e3 : (hh.getD (n : Nat)).toNat - l.toNat = 0 := by omega
                rw [e1, e2, e3]
                exact .sl0
              · rw [if_neg hcl]
                have e1 : (hh.getD (n : Nat)).toNat - l.toNat = (hh.getD (n : Nat) - l).toNat := by omega
                rw [e1]
                have hle : l.toNat ≤ c' := by omega
                have hmul : c' * i.size = l.toNat * i.size + (c' - l.toNat) * i.size := by rw [← Nat.add_mul]; congr 1; omega
                have := VRel.sl (P := P) (b := b) (off := off + l.toNat * i.size) (n := (hh.getD (n : Nat) - l).toNat) (c := capx) (c' := c' - l.toNat) hL (by omega) (.inr rfl)
                  (by rw [hel, hcells] at hs ⊢; omega)
                simpa [Addr.add_lit, Nat.add_assoc] using this
          · cases hk
        · rename_i hcx
          split at hk
          · rename_i hb
            cases hk
            cases hx with
            | sl0 => exact absurd rfl hcx
            | sl hL hn hc hs =>
              rename_i b off c' L
              obtain rfl : c' = c := hc.resolve_right hcx
              have := run_cut ht hi (some ⟨L.block, L.off + off, none⟩) n c' lo hi' l _ hlo (hhi' n) hb.1 hb.2.1 (by omega) w
              refine Gives.same h this ?_
              obtain ⟨h0, h1, h2⟩ := hb
              have hel : L.elem = t' := (cells_inv h hg hL).1
              have e1 : (hh.getD (n : Nat)).toNat - l.toNat = (hh.getD (n : Nat) - l).toNat := by omega
              simp only [sliced, addOff, e1]
              have hle : l.toNat ≤ c' := by omega
              by_cases hcl : l.toNat = c'
              · rw [if_pos hcl, if_pos hcl.symm]
                exact .sl hL (by omega) (.inl rfl) (by rw [hcl]; simp; omega)
              · rw [if_neg hcl, if_neg (fun e => hcl e.symm)]
                have hmul : c' * i.size = l.toNat * i.size + (c' - l.toNat) * i.size := by rw [← Nat.add_mul]; congr 1; omega
                have := VRel.sl (P := P) (b := b) (off := off + l.toNat * i.size) (n := (hh.getD (n : Nat) - l).toNat) (c := c' - l.toNat) (c' := c' - l.toNat) hL (by omega) (.inl rfl)
                  (by rw [hel, hcells] at hs ⊢; omega)
                simpa [Addr.add_lit, Nat.add_assoc] using this
          · cases hk
      · cases hk
    · cases hk
  · cases hk

theorem slS_ok {t : TypeId} (ht : P.underlying t = some .string) (s : ByteArray) {lo hi' : Option Value} {l hh : Int} (hlo : IsI lo 0 l) (hhi : IsI hi' s.size hh) {v : Value} (hk : kSlS s l hh = some v) (w : World) :
    (Instr.sliceAt t (.string s) lo hi' none).run P w = .ok v w ∧ VRel P ρ v v := by
  unfold kSlS at hk
  split at hk
  · rename_i hc
    cases hk
    obtain ⟨h0, h1, h2⟩ := hc
    have eh : (hh.toNat : Int) = hh := Int.toNat_of_nonneg (by omega)
    refine ⟨?_, .string _⟩
    have h3 : 0 ≤ hh := by omega
    rcases hlo with ⟨rfl, rfl⟩ | ⟨kl, rfl⟩ <;> rcases hhi with ⟨rfl, rfl⟩ | ⟨kh, rfl⟩ <;>
      simp_all [Instr.sliceAt, Instr.slice, run_underlying ht, Instr.sliceBounds, run_sliceBound]
  · cases hk

end
end Go.Proofs.Ytlboioplemlneaa.K
