/- K's operations on memory, each held against the model's own: load, store, new blocks, append, copy, make, maps. -/
import Derived.Test.YtlboioplemlneaaKRel
import Derived.Laws.AppendOwn
import Derived.Laws.Slices
import Derived.Laws.Strings
set_option linter.unusedVariables false
set_option linter.unusedSimpArgs false
namespace Go.Proofs.Ytlboioplemlneaa.K
open Go Go.RowKit

/-- is a value of this type made of parts? -/
def isAggD : TypeDesc → Bool
  | .struct _ | .array _ _ => true
  | _ => false

theorem oneC_eq (v : Value) : v.oneCell' = oneC v := by cases v <;> rfl

section
variable {P : Program} {B : Nat} {w0 w : World} {ρ : Rho} {H : Heap}

def Gives (P : Program) (B : Nat) (w0 : World) (ρ : Rho) (s : Sem Value) (w : World) (v : Value) (H' : Heap) : Prop :=
  ∃ ρ' v' w', s.run P w = .ok v' w' ∧ ρ <+: ρ' ∧ VRel P ρ' v v' ∧ HRel P B w0 ρ' H' w'
def GivesU (P : Program) (B : Nat) (w0 : World) (ρ : Rho) (s : Sem Unit) (w : World) (H' : Heap) : Prop :=
  ∃ ρ' w', s.run P w = .ok () w' ∧ ρ <+: ρ' ∧ HRel P B w0 ρ' H' w'

theorem Gives.same {s : Sem Value} {v v' : Value} (h : HRel P B w0 ρ H w) (hr : s.run P w = .ok v' w) (hv : VRel P ρ v v') : Gives P B w0 ρ s w v H :=
  ⟨ρ, v', w, hr, List.prefix_refl _, hv, h⟩

theorem VRel.pointer_inv {x' : Value} {a : Addr} (h : VRel P ρ (.pointer (some a)) x') : ∃ L, a.spot = none ∧ ρ[a.block]? = some L ∧ x' = .pointer (some ⟨L.block, L.off + a.off, none⟩) := by
  cases h with | ptr hb => exact ⟨_, rfl, hb, rfl⟩

theorem cells_inv {b : Nat} {c : List Value} {t : TypeId} {rw : Bool} {L : Loc} (h : HRel P B w0 ρ H w) (hg : H.get b = .cells c t rw) (hL : ρ[b]? = some L) :
    L.elem = t ∧ ∃ (arr : Array Value) (tw : TypeId) (fr : Nat × Nat), w.heap[L.block]? = some (.cells arr tw fr) ∧ arr.size = L.size ∧ L.off + c.length ≤ arr.size ∧
      (∀ (i : Nat) x, c[i]? = some x → oneC x = true ∧ ∃ y, arr[L.off + i]? = some y ∧ VRel P ρ x y) ∧ (rw = true → ∀ i, i < arr.size → (decide (fr.1 ≤ i) && decide (i < fr.2)) = false) := by
  have := h.blk b L hL
  rw [hg] at this
  exact this

theorem cell_at {b i : Nat} {c : List Value} {t : TypeId} {rw : Bool} {L : Loc} {x : Value} (h : HRel P B w0 ρ H w) (hg : H.get b = .cells c t rw) (hL : ρ[b]? = some L) (hx : c[i]? = some x) :
    oneC x = true ∧ ∃ y, w.cell? ⟨L.block, L.off + i, none⟩ = some y ∧ VRel P ρ x y := by
  obtain ⟨_, arr, tw, fr, h2, _, _, h5, _⟩ := cells_inv h hg hL
  obtain ⟨ho, y, hy, hv⟩ := h5 i x hx
  exact ⟨ho, y, by simp [World.cell?, h2, hy], hv⟩

theorem rd_some {c l : List Value} {off n : Nat} (h : rd c off n = some l) : off + n ≤ c.length ∧ l = (c.drop off).take n := by
  unfold rd at h; split at h
  · exact ⟨by assumption, by simpa using h.symm⟩
  · cases h
theorem rd_length {c l : List Value} {off n : Nat} (h : rd c off n = some l) : l.length = n := by
  obtain ⟨h1, rfl⟩ := rd_some h; simp; omega

/-- a row of cells, read -/
theorem row_at {b off n : Nat} {c l : List Value} {t : TypeId} {rw : Bool} {L : Loc} (h : HRel P B w0 ρ H w) (hg : H.get b = .cells c t rw) (hL : ρ[b]? = some L) (hr : rd c off n = some l) :
    ∃ l' : List Value, VL P ρ l l' ∧ l'.length = n ∧ (∀ x ∈ l, oneC x = true) ∧ (∀ x ∈ l', oneC x = true) ∧ ∀ (j : Nat) v, l'[j]? = some v → w.cell? ⟨L.block, L.off + off + j, none⟩ = some v := by
  obtain ⟨_, arr, tw, fr, h2, hsz, hle, h5, _⟩ := cells_inv h hg hL
  obtain ⟨h1, rfl⟩ := rd_some hr
  have hget : ∀ (i : Nat) x, ((c.drop off).take n)[i]? = some x → i < n ∧ c[off + i]? = some x := by
    intro i x hx
    rw [List.getElem?_take] at hx
    split at hx
    · rw [List.getElem?_drop] at hx; exact ⟨by assumption, hx⟩
    · cases hx
  have hlen : ((arr.toList.drop (L.off + off)).take n).length = n := by
    simp only [List.length_take, List.length_drop, Array.length_toList]; omega
  refine ⟨(arr.toList.drop (L.off + off)).take n, ⟨by rw [hlen]; simp; omega, ?_⟩, hlen, ?_, ?_, ?_⟩
  · intro i x y hx hy
    obtain ⟨hin, hx⟩ := hget i x hx
    rw [List.getElem?_take, if_pos hin, List.getElem?_drop] at hy
    obtain ⟨_, y', hy', hv⟩ := h5 _ x hx
    have : arr.toList[L.off + off + i]? = arr[L.off + (off + i)]? := by simp [Nat.add_assoc]
    rw [this, hy'] at hy; cases hy; exact hv
  · intro x hx
    obtain ⟨i, hi⟩ := List.mem_iff_getElem?.1 hx
    exact (h5 _ x (hget i x hi).2).1
  · intro y hy
    obtain ⟨i, hi⟩ := List.mem_iff_getElem?.1 hy
    have hin : i < n := by have := (List.getElem?_eq_some_iff.1 hi).1; omega
    have hc : off + i < c.length := by omega
    obtain ⟨ho, y', hy', hv⟩ := h5 (off + i) c[off + i] (List.getElem?_eq_getElem hc)
    rw [List.getElem?_take, if_pos hin, List.getElem?_drop] at hi
    have : arr.toList[L.off + off + i]? = arr[L.off + (off + i)]? := by simp [Nat.add_assoc]
    rw [this, hy'] at hi; cases hi
    rw [hv.oneC_eq]; exact ho
  · intro j v hv
    rw [List.getElem?_take] at hv
    split at hv
    · rw [List.getElem?_drop] at hv
      simp only [World.cell?, h2]
      simpa using hv
    · cases hv

/- LOAD -/
theorem ld_run {t : TypeId} {d : TypeDesc} (hd : P.underlying t = some d) (hna : isAggD d = false)
    {x x' v : Value} (h : HRel P B w0 ρ H w) (hx : VRel P ρ x x') (hk : kLd H x = some v) : ∃ b v', x' = .pointer (some b) ∧ (loadVar t b).run P w = .ok v' w ∧ VRel P ρ v v' := by
  unfold kLd at hk
  split at hk
  · rename_i a
    obtain ⟨L, hs, hL, rfl⟩ := hx.pointer_inv
    split at hk
    · rename_i c t' rw hg
      obtain ⟨_, y, hy, hv⟩ := cell_at h hg hL hk
      refine ⟨_, y, rfl, ?_, hv⟩
      cases d <;> simp_all [isAggD, loadVar, isAgg, run_underlying hd]
    · cases hk
  · cases hk
theorem ld_ok {t : TypeId} {d : TypeDesc} (hd : P.underlying t = some d) (hna : isAggD d = false)
    {x x' v : Value} (h : HRel P B w0 ρ H w) (hx : VRel P ρ x x') (hk : kLd H x = some v) : Gives P B w0 ρ (Instr.loadAt t x') w v H := by
  obtain ⟨b, v', rfl, hr, hv⟩ := ld_run hd hna h hx hk
  exact Gives.same h (by simp [Instr.loadAt, Instr.sureAddr, hr]) hv

theorem run_loadVar_agg {t : TypeId} {d : TypeDesc} {i : TypeInfo} (hd : P.underlying t = some d) (ha : isAggD d = true) (hi : P.info? t = some i)
    (a : Addr) (l : List Value) (hl : l.length = i.size) (h : ∀ (j : Nat) v, l[j]? = some v → w.cell? (a.add j) = some v) : (loadVar t a).run P w = .ok (.agg l.toArray) w := by
  have := run_loadCells_list (P := P) w a l h
  rw [hl] at this
  cases d <;> simp_all [isAggD, loadVar, isAgg, run_underlying hd, sizeOf, typeInfo]

theorem ldn_run {t : TypeId} {d : TypeDesc} {i : TypeInfo} (hd : P.underlying t = some d) (ha : isAggD d = true) (hi : P.info? t = some i)
    {x x' v : Value} (h : HRel P B w0 ρ H w) (hx : VRel P ρ x x') (hk : kLdn H i.size x = some v) : ∃ b v', x' = .pointer (some b) ∧ (loadVar t b).run P w = .ok v' w ∧ VRel P ρ v v' := by
  unfold kLdn at hk
  split at hk
  · rename_i a
    obtain ⟨L, hs, hL, rfl⟩ := hx.pointer_inv
    split at hk
    · rename_i c t' rw hg
      cases hr : rd c a.off i.size with
      | none => simp [hr] at hk
      | some l =>
        simp [hr] at hk; subst hk
        obtain ⟨l', hv, hl', ho, _, hc⟩ := row_at h hg hL hr
        have := run_loadVar_agg (w := w) hd ha hi ⟨L.block, L.off + a.off, none⟩ l' hl' (fun j v hj => by rw [Addr.add_lit]; exact hc j v hj)
        exact ⟨_, .agg l'.toArray, rfl, this, .agg (by simp [hv.1]) (fun j x y hx hy => hv.2 j x y (by simpa using hx) (by simpa using hy)) (fun j x hx => ho x (List.mem_of_getElem? (by simpa using hx)))⟩
    · cases hk
  · cases hk
theorem ldn_ok {t : TypeId} {d : TypeDesc} {i : TypeInfo} (hd : P.underlying t = some d) (ha : isAggD d = true) (hi : P.info? t = some i)
    {x x' v : Value} (h : HRel P B w0 ρ H w) (hx : VRel P ρ x x') (hk : kLdn H i.size x = some v) : Gives P B w0 ρ (Instr.loadAt t x') w v H := by
  obtain ⟨b, v', rfl, hr, hv⟩ := ldn_run hd ha hi h hx hk
  exact Gives.same h (by simp [Instr.loadAt, Instr.sureAddr, hr]) hv

/- STORE -/
theorem run_storeRow (g o : Nat) (t : TypeId) (fr : Nat × Nat) : ∀ (vs : List Value) (i : Nat) (cur : Array Value) (w : World), w.heap[g]? = some (.cells cur t fr) → o + i + vs.length ≤ cur.size →
    (∀ v ∈ vs, oneC v = true) → (∀ j, j < cur.size → (decide (fr.1 ≤ j) && decide (j < fr.2)) = false) →
    (storeCells ⟨g, o, none⟩ vs i).run P w = .ok () (w.setRow g (cur.toList.take (o + i) ++ vs ++ cur.toList.drop (o + i + vs.length)).toArray)
  | [], i, cur, w, hg, _, _, _ => by
    simp only [storeCells, List.append_nil, List.length_nil, Nat.add_zero, List.take_append_drop, Array.toArray_toList]
    rw [setRow_self w g cur t fr hg]
    rfl
  | v :: rest, i, cur, w, hg, hl, h1, hf => by
    have hi : o + i < cur.size := by simp at hl; omega
    have hadd : (⟨g, o, none⟩ : Addr).add i = ⟨g, o + i, none⟩ := by unfold Addr.add; split <;> simp_all
    have hcell : w.cell? ⟨g, o + i, none⟩ = some cur[o + i] := by simp [World.cell?, hg, hi]
    have hfro : w.frozen? ⟨g, o + i, none⟩ = false := by
      obtain ⟨lo, hi'⟩ := fr
      simpa [World.frozen?, hg] using hf (o + i) hi
    have hst : (store ((⟨g, o, none⟩ : Addr).add i) v).run P w = .ok () (w.setRow g (cur.setIfInBounds (o + i) v)) := by
      rw [hadd, run_store P w _ v _ (by rw [oneC_eq]; exact h1 v (by simp)), hcell]
      simp [hfro, setCell_eq_setRow w g (o + i) cur t fr v hg]
    have ih := run_storeRow g o t fr rest (i + 1) (cur.setIfInBounds (o + i) v) (w.setRow g (cur.setIfInBounds (o + i) v)) (setRow_heap w g cur _ t _ hg) (by simp at hl ⊢; omega) (fun x hx => h1 x (by simp [hx])) (by simpa using hf)
    simp only [storeCells, Sem.run_bind, hst, Result.andThen_ok, ih, setRow_setRow]
    congr 3
    have e := list_seg_step cur.toList (o + i) v rest (by simp at hl ⊢; omega)
    simpa [Array.toList_setIfInBounds, Nat.add_assoc] using e

theorem Below.setRow {B : Nat} {w : World} {g : Nat} (hg : B ≤ g) (cs : Array Value) : Below B w (w.setRow g cs) :=
  ⟨rfl, rfl, rfl, by simp, fun k hk => setRow_other w g k cs (by omega)⟩

theorem wr_length {c vs : List Value} {off : Nat} (h : off + vs.length ≤ c.length) : (wr c off vs).length = c.length := by
  simp [wr]; omega
theorem wr_get {c vs : List Value} {off : Nat} (h : off + vs.length ≤ c.length) (i : Nat) : (wr c off vs)[i]? = if off ≤ i ∧ i < off + vs.length then vs[i - off]? else c[i]? := by
  unfold wr
  rcases Nat.lt_or_ge i off with h1 | h1
  · rw [if_neg (by omega), List.append_assoc, List.getElem?_append_left (by simp; omega), List.getElem?_take, if_pos h1]
  · rcases Nat.lt_or_ge i (off + vs.length) with h2 | h2
    · rw [if_pos ⟨h1, h2⟩, List.getElem?_append_left (by simp; omega), List.getElem?_append_right (by simp; omega)]
      congr 1; simp; omega
    · rw [if_neg (by omega), List.getElem?_append_right (by simp; omega), List.getElem?_drop]
      congr 1; simp; omega

/-- cells of a block of one's own are written -/
theorem store_row {b off : Nat} {c vs vs' : List Value} {t : TypeId} {L : Loc} (h : HRel P B w0 ρ H w) (hg : H.get b = .cells c t true) (hL : ρ[b]? = some L)
    (hfit : off + vs.length ≤ c.length) (hv : VL P ρ vs vs') (ho : ∀ x ∈ vs, oneC x = true) :
    ∃ w', (storeCells ⟨L.block, L.off + off, none⟩ vs').run P w = .ok () w' ∧ HRel P B w0 ρ (H.put b (.cells (wr c off vs) t true)) w' := by
  obtain ⟨he, arr, tw, fr, h2, hsz, hle, h5, h6⟩ := cells_inv h hg hL
  have ho' : ∀ y ∈ vs', oneC y = true := by
    intro y hy
    obtain ⟨i, hi⟩ := List.mem_iff_getElem?.1 hy
    have hlt : i < vs.length := by rw [hv.1]; exact (List.getElem?_eq_some_iff.1 hi).1
    rw [(hv.2 i _ y (List.getElem?_eq_getElem hlt) hi).oneC_eq]; exact ho _ (List.getElem_mem hlt)
  have hrun := run_storeRow (P := P) L.block (L.off + off) tw fr vs' 0 arr w h2 (by rw [← hv.1]; omega) ho' (h6 rfl)
  refine ⟨_, hrun, h.put (b := b) (by rw [hg]; rfl) hL ?_ (Below.setRow (h.own b L hL (by rw [hg]; rfl)) _) (fun i hi => setRow_other w _ _ _ hi)⟩
  have hsz' : (arr.toList.take (L.off + off + 0) ++ vs' ++ arr.toList.drop (L.off + off + 0 + vs'.length)).length = arr.size := by
    simp only [List.length_append, List.length_take, List.length_drop, Array.length_toList, ← hv.1]; omega
  refine ⟨he, _, tw, fr, setRow_heap w _ arr _ tw fr h2, by simpa [hsz] using hsz', by rw [wr_length hfit]; simpa using (by rw [← hsz'] at hle; simpa using hle), ?_, fun _ i hi => h6 rfl i (by simpa [hsz'] using (by rw [← hsz']; simpa using hi))⟩
  intro i x hx
  have hwr := wr_get (c := arr.toList) (vs := vs') (off := L.off + off) (by rw [← hv.1]; simp; omega) (L.off + i)
  rw [wr_get hfit] at hx
  have hy : ((arr.toList.take (L.off + off + 0) ++ vs' ++ arr.toList.drop (L.off + off + 0 + vs'.length)).toArray)[L.off + i]? = (wr arr.toList (L.off + off) vs')[L.off + i]? := by simp [wr]
  rw [hy, hwr]
  split at hx
  · rename_i hin
    rw [if_pos (by rw [← hv.1]; omega)]
    have hlt : i - off < vs'.length := by rw [← hv.1]; omega
    refine ⟨ho x (List.mem_of_getElem? hx), vs'[i - off], ?_, hv.2 (i - off) x _ hx (List.getElem?_eq_getElem hlt)⟩
    rw [← List.getElem?_eq_getElem hlt]; congr 1; omega
  · rename_i hin
    rw [if_neg (by rw [← hv.1]; omega)]
    obtain ⟨ho1, y, hy, hvv⟩ := h5 i x hx
    exact ⟨ho1, y, by simpa using hy, hvv⟩

theorem wr_one {c : List Value} {off : Nat} {v : Value} (h : off < c.length) : wr c off [v] = c.set off v := by
  apply List.ext_getElem?
  intro i
  rw [wr_get (by simp; omega), List.getElem?_set]
  by_cases hi : off = i
  · subst hi; simp [h]
  · rw [if_neg (by simp; omega), if_neg hi]

theorem st_ok {t : TypeId} {i : TypeInfo} (hi : P.info? t = some i) (h1 : i.size = 1) {x x' y y' : Value} (h : HRel P B w0 ρ H w) (hx : VRel P ρ x x') (hy : VRel P ρ y y') {H' : Heap}
    (hk : kSt H x y = some H') : GivesU P B w0 ρ (Instr.storeAt t x' y') w H' := by
  unfold kSt at hk
  split at hk
  · rename_i a
    obtain ⟨L, hs, hL, rfl⟩ := hx.pointer_inv
    split at hk
    · rename_i c t' hg
      split at hk
      · rename_i hc
        simp only [Bool.and_eq_true, decide_eq_true_eq] at hc
        cases hk
        obtain ⟨w', hrun, hH⟩ := store_row (vs := [y]) (vs' := [y']) h hg hL (off := a.off) (by simp; omega) (VL.cons hy VL.nil) (by simpa using hc.2)
        have ho : oneC y' = true := by rw [hy.oneC_eq]; exact hc.2
        have hcells : y'.cells = #[y'] := by cases y' <;> simp_all [Value.cells, oneC]
        refine ⟨ρ, w', ?_, List.prefix_refl _, by rw [← wr_one hc.1]; exact hH⟩
        simp [Instr.storeAt, Instr.sureAddr, storeVar, sizeOf, typeInfo, hi, h1, hcells, hrun]
      · cases hk
    · cases hk
  · cases hk

theorem stn_ok {t : TypeId} {i : TypeInfo} (hi : P.info? t = some i) {x x' y y' : Value} (h : HRel P B w0 ρ H w) (hx : VRel P ρ x x') (hy : VRel P ρ y y') {H' : Heap}
    (hk : kStn H i.size x y = some H') : GivesU P B w0 ρ (Instr.storeAt t x' y') w H' := by
  unfold kStn at hk
  split at hk
  · rename_i a vs
    obtain ⟨L, hs, hL, rfl⟩ := hx.pointer_inv
    split at hk
    · rename_i c t' hg
      split at hk
      · rename_i hc
        simp only [Bool.and_eq_true, decide_eq_true_eq, beq_iff_eq] at hc
        cases hk
        cases hy with
        | agg hsz hv ho =>
          rename_i ys
          obtain ⟨w', hrun, hH⟩ := store_row (vs := vs.toList) (vs' := ys.toList) h hg hL (off := a.off) (by simp; omega) (VL.arr hsz hv)
            (fun x hx => by obtain ⟨j, hj⟩ := List.mem_iff_getElem?.1 hx; exact ho j x (by simpa using hj))
          refine ⟨ρ, w', ?_, List.prefix_refl _, hH⟩
          have : ys.size = i.size := by omega
          simp [Instr.storeAt, Instr.sureAddr, storeVar, sizeOf, typeInfo, hi, Value.cells, this, hrun]
      · cases hk
    · cases hk
  · cases hk

/- NEW BLOCKS -/
theorem new_row (h : HRel P B w0 ρ H w) {l l' : List Value} {t : TypeId} {rw : Bool} (hv : VL P ρ l l') (ho : ∀ x ∈ l, oneC x = true) (more : List Value) :
    HRel P B w0 (ρ ++ [⟨w.heap.size, 0, l'.length + more.length, t⟩]) (H.push (.cells l t rw)) (w.alloc (.cells (l' ++ more).toArray t)) := by
  refine h.push rfl ⟨rfl, _, t, (0, 0), heap_alloc_new w _, by simp, by simp [hv.1], ?_, fun _ i _ => by simp⟩
  intro i x hx
  obtain ⟨y, hy, hvv⟩ := hv.get hx
  refine ⟨ho x (List.mem_of_getElem? hx), y, ?_, hvv.mono (List.prefix_append _ _)⟩
  have hlt : i < l'.length := (List.getElem?_eq_some_iff.1 hy).1
  simp [List.getElem?_append_left hlt, hy]

theorem new_last (h : HRel P B w0 ρ H w) (L : Loc) : (ρ ++ [L])[H.next]? = some L := by
  rw [Heap.next, ← h.len]; simp

theorem VRel.ground {v : Value} (hv : VRel P [] v v) : VRel P ρ v v := hv.mono (List.nil_prefix)

theorem VRel.cellsL {v v' : Value} (hv : VRel P ρ v v') (ht : isTup v = false) : VL P ρ (cellsL v) (cellsL v') ∧ (∀ x ∈ cellsL v, oneC x = true) ∧ v'.cells.toList = cellsL v' := by
  cases hv with
  | agg hs h ho => exact ⟨VL.arr hs h, fun x hx => by obtain ⟨j, hj⟩ := List.mem_iff_getElem?.1 hx; exact ho j x (by simpa [K.cellsL] using hj), rfl⟩
  | tuple => cases ht
  | bool b => exact ⟨VL.cons (.bool b) VL.nil, by simp [K.cellsL, oneC], rfl⟩
  | int k n => exact ⟨VL.cons (.int k n) VL.nil, by simp [K.cellsL, oneC], rfl⟩
  | string s => exact ⟨VL.cons (.string s) VL.nil, by simp [K.cellsL, oneC], rfl⟩
  | pnil => exact ⟨VL.cons .pnil VL.nil, by simp [K.cellsL, oneC], rfl⟩
  | ptr hb => exact ⟨VL.cons (.ptr hb) VL.nil, by simp [K.cellsL, oneC], rfl⟩
  | snil => exact ⟨VL.cons .snil VL.nil, by simp [K.cellsL, oneC], rfl⟩
  | sl a b c d => exact ⟨VL.cons (.sl a b c d) VL.nil, by simp [K.cellsL, oneC], rfl⟩
  | sl0 => exact ⟨VL.cons .sl0 VL.nil, by simp [K.cellsL, oneC], rfl⟩
  | mnil => exact ⟨VL.cons .mnil VL.nil, by simp [K.cellsL, oneC], rfl⟩
  | map hb => exact ⟨VL.cons (.map hb) VL.nil, by simp [K.cellsL, oneC], rfl⟩
  | func f a b c d => exact ⟨VL.cons (.func f a b c d) VL.nil, by simp [K.cellsL, oneC], rfl⟩
  | nilFunc => exact ⟨VL.cons .nilFunc VL.nil, by simp [K.cellsL, oneC], rfl⟩
  | nilIface => exact ⟨VL.cons .nilIface VL.nil, by simp [K.cellsL, oneC], rfl⟩
  | iface t h => exact ⟨VL.cons (.iface t h) VL.nil, by simp [K.cellsL, oneC], rfl⟩

theorem newVar_ok (h : HRel P B w0 ρ H w) {t : TypeId} {l l' : List Value} (hv : VL P ρ l l') (ho : ∀ x ∈ l, oneC x = true) :
    ∃ L, HRel P B w0 (ρ ++ [L]) (H.push (.cells l t true)) (w.alloc (.cells l'.toArray t)) ∧ L.block = w.heap.size ∧ L.off = 0 ∧ L.elem = t ∧ L.size = l'.length := by
  have := new_row (rw := true) (t := t) h hv ho []
  simp only [List.append_nil] at this
  exact ⟨_, this, rfl, rfl, rfl, rfl⟩

theorem box_ok {t : TypeId} {x x' : Value} (h : HRel P B w0 ρ H w) (hx : VRel P ρ x x') (ht : isTup x = false) :
    Gives P B w0 ρ (Instr.box t x') w (.pointer (some ⟨H.next, 0, none⟩)) (H.push (.cells (cellsL x) t true)) := by
  obtain ⟨hv, ho, hc⟩ := hx.cellsL ht
  obtain ⟨L, hH, hb, hoff, _⟩ := newVar_ok (t := t) h hv ho
  refine ⟨ρ ++ [L], .pointer (some ⟨w.heap.size, 0, none⟩), _, ?_, List.prefix_append _ _, ?_, hH⟩
  · have : x'.cells = (cellsL x').toArray := by rw [← hc]
    simp [Instr.box, newVar, newRow, newObj, this, Sem.run]
  · have := VRel.ptr (P := P) (off := 0) (new_last h L)
    rw [hb, hoff] at this; exact this

theorem alloc_ok {t : TypeId} {i : TypeInfo} {z : Value} (hi : P.info? t = some i) (hz : i.zero = some z) (hg : VL P [] z.cells.toList z.cells.toList) (hoz : ∀ x ∈ z.cells.toList, oneC x = true) (h : HRel P B w0 ρ H w) :
    Gives P B w0 ρ (Instr.alloc t true (.tuple #[])) w (.pointer (some ⟨H.next, 0, none⟩)) (H.push (.cells z.cells.toList t true)) := by
  obtain ⟨L, hH, hb, hoff, _⟩ := newVar_ok (t := t) h (hg.mono List.nil_prefix) hoz
  refine ⟨ρ ++ [L], .pointer (some ⟨w.heap.size, 0, none⟩), _, ?_, List.prefix_append _ _, ?_, hH⟩
  · simp [Instr.alloc, zeroValue, typeInfo, hi, hz, newVar, newRow, newObj, Sem.run]
  · have := VRel.ptr (P := P) (off := 0) (new_last h L)
    rw [hb, hoff] at this; exact this

end
end Go.Proofs.Ytlboioplemlneaa.K
