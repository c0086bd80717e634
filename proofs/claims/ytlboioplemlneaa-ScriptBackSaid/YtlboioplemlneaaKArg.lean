/- Arguments of a law: how plain data (whole numbers, bools, texts, structs and arrays of them, slices of all these) stand in K's abstract heap. -/
import Derived.Test.YtlboioplemlneaaKTop
import Derived.OpenShut
import Derived.Carry
set_option linter.unusedVariables false
set_option linter.unusedSimpArgs false
namespace Go.Proofs.Ytlboioplemlneaa.K
open Go Go.RowKit Go.WideShapes Go.ChangeShapes

inductive SK where
  | bool | int (k : IntKind) | str

def SKok : SK → Value → Prop
  | .bool, v => ∃ b, v = .bool b
  | .int k, v => ∃ n, v = .int k n ∧ (Lit.int k n).wf = true
  | .str, v => ∃ s : ByteArray, v = .string s ∧ s.size ≤ maxLen
def SKL : List SK → List Value → Prop
  | [], vs => vs = []
  | k :: ks, vs => ∃ v vs', vs = v :: vs' ∧ SKok k v ∧ SKL ks vs'

def flatFs (fk : TypeId → Option (List SK)) (size : TypeId → Nat) (total : Nat) : List Field → Nat → Option (List SK)
  | [], off => if off = total then some [] else none
  | f :: fs, off => if f.offset = off then (fk f.type).bind fun k => if k.length = size f.type then (flatFs fk size total fs (off + k.length)).map (k ++ ·) else none else none
/-- the scalars of a type that is plain -/
def plK (P : Program) : Nat → TypeId → Option (List SK)
  | 0, _ => none
  | d + 1, t => match P.underlying t with
    | some .bool => some [.bool]
    | some (.int k) => some [.int k]
    | some .string => some [.str]
    | some (.struct fs) => flatFs (plK P d) P.cellsOf (P.cellsOf t) fs.toList 0
    | some (.array n e) => (plK P d e).bind fun k => if k.length = P.cellsOf e ∧ P.cellsOf t = n * k.length then some (List.replicate n k).flatten else none
    | _ => none

theorem SKL_length : ∀ {ks : List SK} {vs : List Value}, SKL ks vs → vs.length = ks.length
  | [], vs, h => by cases h; rfl
  | k :: ks, vs, h => by obtain ⟨v, vs', rfl, _, h⟩ := h; simp [SKL_length h]
theorem SKL_append : ∀ {a b : List SK} {vs : List Value}, SKL a (vs.take a.length) → SKL b (vs.drop a.length) → SKL (a ++ b) vs
  | [], b, vs, _, h => by simpa using h
  | k :: a, b, vs, h1, h2 => by
    obtain ⟨v, vs', he, hk, h⟩ := h1
    cases vs with
    | nil => simp at he
    | cons x vs =>
      simp at he
      obtain ⟨rfl, rfl⟩ := he
      exact ⟨x, vs, rfl, hk, SKL_append h (by simpa using h2)⟩
theorem SKL_get : ∀ {ks : List SK} {vs : List Value}, SKL ks vs → ∀ (i : Nat) v, vs[i]? = some v → ∃ k, ks[i]? = some k ∧ SKok k v
  | [], vs, h, i, v, hv => by cases h; simp at hv
  | k :: ks, vs, h, i, v, hv => by
    obtain ⟨x, vs', rfl, hk, h⟩ := h
    cases i with
    | zero => simp at hv; subst hv; exact ⟨k, rfl, hk⟩
    | succ i => simp at hv; simpa using SKL_get h i v hv
theorem SKok_rel {P : Program} {ρ : Rho} {k : SK} {v : Value} (h : SKok k v) : VRel P ρ v v ∧ oneC v = true := by
  cases k with
  | bool => obtain ⟨b, rfl⟩ := h; exact ⟨.bool b, rfl⟩
  | int k => obtain ⟨n, rfl, _⟩ := h; exact ⟨.int k n, rfl⟩
  | str => obtain ⟨s, rfl, _⟩ := h; exact ⟨.string s, rfl⟩
theorem SKL_rel {P : Program} {ρ : Rho} {ks : List SK} {vs : List Value} (h : SKL ks vs) : (∀ (i : Nat) x y, vs[i]? = some x → vs[i]? = some y → VRel P ρ x y) ∧ ∀ (i : Nat) x, vs[i]? = some x → oneC x = true :=
  ⟨fun i x y hx hy => by rw [hx] at hy; cases hy; obtain ⟨k, _, hk⟩ := SKL_get h i x hx; exact (SKok_rel hk).1,
   fun i x hx => by obtain ⟨k, _, hk⟩ := SKL_get h i x hx; exact (SKok_rel (P := P) (ρ := ρ) hk).2⟩

section
variable {H : Type} {enc : TypeId × Value → H} {P : Program} {w : World} {base : Nat} {spare : Nat → Bool} {held : Bool}

theorem flatFs_trod {fk : TypeId → Option (List SK)} {size : TypeId → Nat} {cs : List Value} : ∀ (fs : List Field) (off : Nat) (ks : List SK), flatFs fk size cs.length fs off = some ks →
    (∀ f ∈ fs, ∀ k, fk f.type = some k → SKL k ((cs.drop f.offset).take (size f.type))) → SKL ks (cs.drop off)
  | [], off, ks, h, _ => by
    simp only [flatFs] at h
    split at h
    · cases h; simp [SKL]; omega
    · cases h
  | f :: fs, off, ks, h, hf => by
    simp only [flatFs] at h
    split at h
    · rename_i ho
      simp only [Option.bind_eq_some_iff] at h
      obtain ⟨k, hk, h⟩ := h
      split at h
      · rename_i hl
        simp only [Option.map_eq_some_iff] at h
        obtain ⟨ks', h, rfl⟩ := h
        have h1 := hf f (by simp) k hk
        have h2 := flatFs_trod fs (off + k.length) ks' h fun g hg => hf g (by simp [hg])
        refine SKL_append ?_ ?_
        · rw [ho, ← hl] at h1; exact h1
        · rw [List.drop_drop]; exact h2
      · cases h
    · cases h

theorem flat_trod : ∀ (d : Nat) (t : TypeId) (ks : List SK), plK P d t = some ks → ∀ (fuel : Nat) (cs : List Value) (x : DataW H × List MemPlace), DataW.trod enc P w base spare held fuel t cs = some x → SKL ks cs ∧ cs.length = P.cellsOf t ∨ SKL ks cs ∧ cs.length = 1
  | 0, t, ks, h, _, _, _, _ => by simp [plK] at h
  | d + 1, t, ks, h, fuel, cs, x, hx => by
    simp only [plK] at h
    split at h
    · rename_i ht
      cases h
      obtain ⟨b, rfl, _⟩ := DataW.trod_bool ht hx
      right; exact ⟨⟨_, [], rfl, ⟨b, rfl⟩, rfl⟩, rfl⟩
    · rename_i k ht
      cases h
      obtain ⟨n, rfl, _, hw⟩ := DataW.trod_int ht hx
      right; exact ⟨⟨_, [], rfl, ⟨n, rfl, hw⟩, rfl⟩, rfl⟩
    · rename_i ht
      cases h
      obtain ⟨s, rfl, _, hw⟩ := DataW.trod_string ht hx
      right; exact ⟨⟨_, [], rfl, ⟨s, rfl, hw⟩, rfl⟩, rfl⟩
    · rename_i fs ht
      obtain ⟨xs, n, _, _, hl, hlen, hf⟩ := DataW.trod_struct ht hx
      left
      refine ⟨?_, hl⟩
      rw [← hl] at h
      have := flatFs_trod (cs := cs) fs.toList 0 ks h ?_
      · simpa using this
      · intro f hfm k hk
        obtain ⟨i, hi⟩ := List.mem_iff_getElem?.1 hfm
        have h1 := hf i f (by simpa using hi)
        have hlt : i < xs.length := by rw [hlen]; have := (List.getElem?_eq_some_iff.1 hi).1; simpa using this
        rw [List.getElem?_eq_getElem hlt] at h1
        rcases flat_trod d f.type k hk _ _ _ h1 with h2 | h2 <;> exact h2.1
    · rename_i n e ht
      simp only [Option.bind_eq_some_iff] at h
      obtain ⟨k, hk, h⟩ := h
      split at h
      · rename_i hke
        cases h
        obtain ⟨xs, m, _, _, hl, hlen, hf⟩ := DataW.trod_array ht hx
        left
        refine ⟨?_, hl⟩
        have hseg : ∀ i, i < n → SKL k ((cs.drop (i * k.length)).take k.length) := by
          intro i hi
          have h1 := hf i hi
          rw [List.getElem?_eq_getElem (by omega)] at h1
          rw [hke.1]
          rcases flat_trod d e k hk _ _ _ h1 with h2 | h2 <;> exact h2.1
        have key : ∀ m j, m + j = n → SKL (List.replicate m k).flatten (cs.drop (j * k.length)) := by
          intro m
          induction m with
          | zero => intro j hj; simp [SKL]; rw [hl, hke.2]; have : j = n := by omega
                    rw [this]; exact Nat.le_refl _
          | succ m ih =>
            intro j hj
            simp only [List.replicate_succ, List.flatten_cons]
            refine SKL_append (hseg j (by omega)) ?_
            rw [List.drop_drop]
            have := ih (j + 1) (by omega)
            rw [Nat.succ_mul] at this
            exact this
        simpa using key n 0 (by omega)
      · cases h
    · cases h

/-- each argument that is plain, as it is -/
theorem arg_flat {r : Reach} {b0 d : Nat} {t : TypeId} {v : Value} {x : DataW H} {ps : List MemPlace} {ks : List SK} (hk : plK P d t = some ks) (hval : Value.okWide P w r b0 t v) (hd : DataW.Trod enc P w base spare held t v x ps) :
    SKL ks v.cells.toList ∧ ∀ ρ, VRel P ρ v v := by
  obtain ⟨fuel, hf⟩ := hd
  have h1 : SKL ks v.cells.toList := by rcases flat_trod d t ks hk fuel _ _ hf with h | h <;> exact h.1
  refine ⟨h1, fun ρ => ?_⟩
  cases d with
  | zero => simp [plK] at hk
  | succ d =>
    simp only [plK] at hk
    split at hk
    · rename_i ht; obtain ⟨b, rfl⟩ := okWide_bool ht hval; exact .bool b
    · rename_i k ht; obtain ⟨n, rfl⟩ := okWide_int ht hval; exact .int k n
    · rename_i ht; obtain ⟨s, rfl⟩ := okWide_string ht hval; exact .string s
    · rename_i fs ht
      obtain ⟨cs, rfl, hs⟩ := okWide_struct ht hval
      have := SKL_rel (P := P) (ρ := ρ) h1
      exact .agg rfl (fun i x y hx hy => this.1 i x y (by simpa [Value.cells] using hx) (by simpa [Value.cells] using hy)) (fun i x hx => this.2 i x (by simpa [Value.cells] using hx))
    · rename_i n e ht
      have : ∃ cs, v = .agg cs := by
        simp only [Value.okWide, ht] at hval
        obtain ⟨cs, rfl, _⟩ := hval; exact ⟨cs, rfl⟩
      obtain ⟨cs, rfl⟩ := this
      have := SKL_rel (P := P) (ρ := ρ) h1
      exact .agg rfl (fun i x y hx hy => this.1 i x y (by simpa [Value.cells] using hx) (by simpa [Value.cells] using hy)) (fun i x hx => this.2 i x (by simpa [Value.cells] using hx))
    · cases hk

def isAggT : Option TypeDesc → Bool
  | some (.struct _) | some (.array _ _) => true
  | _ => false
/-- an argument that is a struct, or an array -/
theorem arg_agg {r : Reach} {b0 d : Nat} {t : TypeId} {v : Value} {x : DataW H} {ps : List MemPlace} {ks : List SK} (ht : isAggT (P.underlying t) = true) (hk : plK P d t = some ks) (hval : Value.okWide P w r b0 t v) (hd : DataW.Trod enc P w base spare held t v x ps) :
    ∃ cs : List Value, v = .agg cs.toArray ∧ SKL ks cs ∧ ∀ ρ, VRel P ρ v v := by
  obtain ⟨h1, h2⟩ := arg_flat hk hval hd
  unfold isAggT at ht
  split at ht
  · rename_i fs hf
    obtain ⟨cs, rfl, _⟩ := okWide_struct hf hval
    exact ⟨cs.toList, by simp, by simpa [Value.cells] using h1, h2⟩
  · rename_i n e hf
    simp only [Value.okWide, hf] at hval
    obtain ⟨cs, rfl, _⟩ := hval
    exact ⟨cs.toList, by simp, by simpa [Value.cells] using h1, h2⟩
  · cases ht
theorem arg_str {r : Reach} {b0 : Nat} {t : TypeId} {v : Value} {x : DataW H} {ps : List MemPlace} (ht : P.underlying t = some .string) (hval : Value.okWide P w r b0 t v) (hd : DataW.Trod enc P w base spare held t v x ps) :
    ∃ s : ByteArray, v = .string s ∧ s.size ≤ maxLen := by
  obtain ⟨s, rfl⟩ := okWide_string ht hval
  obtain ⟨fuel, hf⟩ := hd
  obtain ⟨s', h, _, hs⟩ := DataW.trod_string ht hf
  simp [Value.cells] at h
  subst h
  exact ⟨s, rfl, hs⟩

/-- rows of scalars, n of them -/
def SKs (ks : List SK) (n : Nat) (cs : List Value) : Prop := cs.length = n * ks.length ∧ ∀ i, i < n → SKL ks ((cs.drop (i * ks.length)).take ks.length)

/-- an argument's slice, in its own block -/
def ArgSl (ks : List SK) (e : TypeId) (b : Nat) (kv : Value) (blk : Blk) : Prop := kv = .slice none 0 0 ∨ ∃ n cs, n ≤ maxLen ∧ SKs ks n cs ∧ kv = .slice (some ⟨b, 0, none⟩) n capx ∧ blk = .cells cs e false

theorem SKs_get {ks : List SK} {n : Nat} {cs : List Value} (h : SKs ks n cs) (i : Nat) (v : Value) (hv : cs[i]? = some v) : ∃ k, SKok k v := by
  have hi := (List.getElem?_eq_some_iff.1 hv).1
  rw [h.1] at hi
  have hp : 0 < ks.length := Nat.pos_of_ne_zero fun e => by simp [e] at hi
  have hq : i / ks.length < n := by rw [Nat.div_lt_iff_lt_mul hp]; exact hi
  have h1 := h.2 _ hq
  have h2 : ((cs.drop (i / ks.length * ks.length)).take ks.length)[i % ks.length]? = some v := by
    rw [List.getElem?_take, if_pos (Nat.mod_lt _ hp), List.getElem?_drop]
    have : i / ks.length * ks.length + i % ks.length = i := by rw [Nat.mul_comm]; exact Nat.div_add_mod i _
    rw [this]; exact hv
  obtain ⟨k, _, hk⟩ := SKL_get h1 _ _ h2
  exact ⟨k, hk⟩

theorem cell_heap {a : Addr} {v : Value} (h : w.cell? a = some v) : a.spot = none ∧ ∃ arr tw fr, w.heap[a.block]? = some (.cells arr tw fr) ∧ arr[a.off]? = some v := by
  obtain ⟨b, off, sp⟩ := a
  have hs := World.cell?_spot h
  simp only at hs; subst hs
  refine ⟨rfl, ?_⟩
  simp only [World.cell?] at h
  split at h
  · rename_i c e fr hg; exact ⟨c, e, fr, hg, h⟩
  · cases h
end

section
variable {D : Type} {enc : TypeId × Value → D} {P : Program} {B : Nat} {w0 w : World} {ρ : Rho} {H : Heap}
theorem HRel.push_dead {L : Loc} (hR : HRel P B w0 ρ H w) (hno : ∀ b, (H.get b).own = false) : HRel P B w0 (ρ ++ [L]) (H.push .dead) w := by
  have hget : ∀ b' L', (ρ ++ [L])[b']? = some L' → (b' = H.next ∧ L' = L) ∨ (b' < H.next ∧ ρ[b']? = some L') := by
    intro b' L' hb'
    rcases Nat.lt_or_ge b' ρ.length with hlt | hge
    · rw [List.getElem?_append_left hlt] at hb'; exact .inr ⟨by rw [Heap.next, ← hR.len]; exact hlt, hb'⟩
    · rw [List.getElem?_append_right hge] at hb'
      have : b' - ρ.length = 0 := by
        rcases Nat.eq_zero_or_pos (b' - ρ.length) with h0 | h0
        · exact h0
        · rw [List.getElem?_eq_none (by simp; omega)] at hb'; cases hb'
      rw [this] at hb'; simp at hb'
      exact .inl ⟨by rw [Heap.next, ← hR.len]; omega, hb'.symm⟩
  refine ⟨hR.below, hR.base, by simp [Heap.push, hR.len], ?_, ?_, ?_⟩
  · intro b' L' hb'
    rcases hget b' L' hb' with ⟨rfl, rfl⟩ | ⟨hlt, hb''⟩
    · rw [Heap.get_push, if_pos rfl]; trivial
    · rw [Heap.get_push, if_neg (by omega)]
      exact (hR.blk b' L' hb'').mono (List.prefix_append _ _) (fun _ => rfl)
  · intro b' L' hb' ho
    rw [Heap.get_push] at ho
    split at ho
    · cases ho
    · rw [hno] at ho; cases ho
  · intro b1 b2 L1 L2 h1 h2 hne ho hl
    rw [Heap.get_push] at ho
    split at ho
    · cases ho
    · rw [hno] at ho; cases ho
/-- an argument that is a slice of what is plain: a block more, to be read alone -/
theorem arg_slice {b0 d : Nat} {t e : TypeId} {v : Value} {x : DataW D} {ps : List MemPlace} {ks : List SK} (ht : P.underlying t = some (.slice e)) (hk : plK P d e = some ks) (hz : ks.length = P.cellsOf e) (hp : 0 < ks.length)
    (hval : Value.okWide P w .any b0 t v) (hd : DataW.Trod enc P w 0 (fun _ => true) true t v x ps) (hR : HRel P B w0 ρ H w) (hno : ∀ b, (H.get b).own = false) :
    ∃ kv blk ρ', ρ <+: ρ' ∧ VRel P ρ' kv v ∧ HRel P B w0 ρ' (H.push blk) w ∧ (∀ b, ((H.push blk).get b).own = false) ∧ ArgSl ks e H.next kv blk := by
  obtain ⟨fuel, hf⟩ := hd
  obtain ⟨a0, len0, cap0, rfl⟩ := okWide_slice ht hval
  rcases DataW.trod_slice ht hf with ⟨h, _⟩ | ⟨a, len, cap, elems, rest, m, _, h, _, _, hlc, hcm, hel, hE, hS, _⟩
  · simp [Value.cells] at h
    obtain ⟨rfl, rfl, rfl⟩ := h
    exact ⟨_, .dead, _, List.prefix_append ρ [⟨0, 0, 0, 0⟩], .snil, hR.push_dead hno, fun b' => by rw [Heap.get_push]; split; rfl; exact hno b', .inl rfl⟩
  · simp [Value.cells] at h
    obtain ⟨rfl, rfl, rfl⟩ := h
    obtain ⟨hrl, hS⟩ := hS rfl
    simp only [Value.okWide, ht, Cell.okWide, Cell.ok] at hval
    obtain ⟨_, _, _, hspot, row, cells, hshape, _⟩ := hval
    obtain ⟨b, off, sp⟩ := a
    simp only at hspot; subst hspot
    obtain ⟨arr, tw, fr, hheap⟩ : ∃ arr tw fr, w.heap[b]? = some (.cells arr tw fr) := by
      simp only [World.shape?] at hshape
      split at hshape
      · rename_i c el fr hg; exact ⟨c, el, fr, hg⟩
      · cases hshape
    -- all the cells up to the capacity
    have hall : ∀ i, i < cap0 → ∃ cs, cs.length = ks.length ∧ SKL ks cs ∧ ∀ j, j < ks.length → arr[off + (i * ks.length + j)]? = cs[j]? := by
      have one : ∀ i y, ((w.cells? 0 ((⟨b, off, none⟩ : Addr).add (i * P.cellsOf e)) (P.cellsOf e)).bind (DataW.trod enc P w 0 (fun _ => true) true m e)) = some y → ∃ cs, cs.length = ks.length ∧ SKL ks cs ∧ ∀ j, j < ks.length → arr[off + (i * ks.length + j)]? = cs[j]? := by
        intro i y hy
        simp only [Option.bind_eq_some_iff] at hy
        obtain ⟨cs, hc, hy⟩ := hy
        obtain ⟨_, hl, hcell⟩ := World.cells?_some hc
        refine ⟨cs, by rw [hl, hz], by rcases flat_trod d e ks hk _ _ _ hy with h | h <;> exact h.1, fun j hj => ?_⟩
        have h1 := hcell j (by omega)
        rw [add_plain, add_plain] at h1
        simp only [World.cell?, hheap] at h1
        rw [← h1, hz]; congr 1; omega
      intro i hi
      rcases Nat.lt_or_ge i len0 with h1 | h1
      · have h2 := hE i h1
        rw [List.getElem?_eq_getElem (by omega)] at h2
        exact one i _ h2
      · have h2 := hS (i - len0) (by omega)
        rw [List.getElem?_eq_getElem (by omega)] at h2
        have := one (len0 + (i - len0)) _ h2
        rwa [Nat.add_sub_cancel' h1] at this
    have hfit : cap0 = 0 ∨ off + cap0 * ks.length ≤ arr.size := by
      rcases Nat.eq_zero_or_pos cap0 with h0 | h0
      · exact .inl h0
      · right
        obtain ⟨cs, hl, _, hc⟩ := hall (cap0 - 1) (by omega)
        have h1 := hc (ks.length - 1) (by omega)
        rw [List.getElem?_eq_getElem (by omega)] at h1
        have h2 := (Array.getElem?_eq_some_iff.1 h1).1
        have h3 : cap0 * ks.length = (cap0 - 1) * ks.length + ks.length := by
          rw [← Nat.succ_mul]; congr 1; omega
        omega
    have hmk : ∀ (L : Loc), L.block = b → L.elem = e → L.size = arr.size → L.off + (len0 * ks.length) ≤ arr.size → (∀ i, i < len0 * ks.length → L.off = off) →
        HRel P B w0 (ρ ++ [L]) (H.push (.cells ((arr.toList.drop L.off).take (len0 * ks.length)) e false)) w := by
      intro L hb he hs hle hoff
      have hlen : ((arr.toList.drop L.off).take (len0 * ks.length)).length = len0 * ks.length := by simp; omega
      have hpre : ρ <+: ρ ++ [L] := List.prefix_append _ _
      have hget : ∀ b' L', (ρ ++ [L])[b']? = some L' → (b' = H.next ∧ L' = L) ∨ (b' < H.next ∧ ρ[b']? = some L') := by
        intro b' L' hb'
        rcases Nat.lt_or_ge b' ρ.length with hlt | hge
        · rw [List.getElem?_append_left hlt] at hb'; exact .inr ⟨by rw [Heap.next, ← hR.len]; exact hlt, hb'⟩
        · rw [List.getElem?_append_right hge] at hb'
          have : b' - ρ.length = 0 := by
            rcases Nat.eq_zero_or_pos (b' - ρ.length) with h0 | h0
            · exact h0
            · rw [List.getElem?_eq_none (by simp; omega)] at hb'; cases hb'
          rw [this] at hb'; simp at hb'
          exact .inl ⟨by rw [Heap.next, ← hR.len]; omega, hb'.symm⟩
      refine ⟨hR.below, hR.base, by simp [Heap.push, hR.len], ?_, ?_, ?_⟩
      · intro b' L' hb'
        rcases hget b' L' hb' with ⟨rfl, rfl⟩ | ⟨hlt, hb''⟩
        · rw [Heap.get_push, if_pos rfl]
          refine ⟨he, arr, tw, fr, by rw [hb]; exact hheap, hs.symm, by rw [hlen]; exact hle, ?_, fun h => by cases h⟩
          intro i y hy
          have hi := (List.getElem?_eq_some_iff.1 hy).1
          rw [hlen] at hi
          rw [List.getElem?_take, if_pos hi, List.getElem?_drop] at hy
          have hy' : arr[L'.off + i]? = some y := by simpa using hy
          have hp' : i / ks.length < len0 := by rw [Nat.div_lt_iff_lt_mul hp]; exact hi
          obtain ⟨cs, hl, hsk, hc⟩ := hall (i / ks.length) (by omega)
          have h1 := hc (i % ks.length) (Nat.mod_lt _ hp)
          have h2 : i / ks.length * ks.length + i % ks.length = i := by rw [Nat.mul_comm]; exact Nat.div_add_mod i _
          rw [h2, ← hoff i hi, hy'] at h1
          obtain ⟨k, _, hk'⟩ := SKL_get hsk _ _ h1.symm
          exact ⟨(SKok_rel (P := P) (ρ := ρ) hk').2, y, hy', (SKok_rel hk').1⟩
        · rw [Heap.get_push, if_neg (by omega)]
          exact (hR.blk b' L' hb'').mono hpre (fun _ => rfl)
      · intro b' L' hb' ho
        rcases hget b' L' hb' with ⟨rfl, rfl⟩ | ⟨hlt, hb''⟩
        · rw [Heap.get_push, if_pos rfl] at ho; cases ho
        · rw [Heap.get_push, if_neg (by omega)] at ho; exact hR.own b' L' hb'' ho
      · intro b1 b2 L1 L2 h1 h2 hne ho hl
        rcases hget b1 L1 h1 with ⟨rfl, rfl⟩ | ⟨hlt, hb1⟩
        · rw [Heap.get_push, if_pos rfl] at ho; cases ho
        · rw [Heap.get_push, if_neg (by omega), hno] at ho; cases ho
    have hlast : ∀ L : Loc, (ρ ++ [L])[H.next]? = some L := fun L => new_last hR L
    have hown : ∀ cs, ∀ b', ((H.push (.cells cs e false)).get b').own = false := by
      intro cs b'
      rw [Heap.get_push]
      split
      · rfl
      · exact hno b'
    rcases hfit with h0 | h0
    · subst h0
      have h1 : len0 = 0 := by omega
      subst h1
      refine ⟨.slice (some ⟨H.next, 0, none⟩) 0 capx, _, ρ ++ [⟨b, 0, arr.size, e⟩], List.prefix_append _ _, .sl0, hmk ⟨b, 0, arr.size, e⟩ rfl rfl rfl (by simp) (fun i hi => by simp at hi), hown _, .inr ⟨0, [], Nat.zero_le _, ⟨by simp, fun i hi => by omega⟩, rfl, by simp⟩⟩
    · have hle : len0 * ks.length ≤ cap0 * ks.length := Nat.mul_le_mul_right _ hlc
      refine ⟨.slice (some ⟨H.next, 0, none⟩) len0 capx, _, ρ ++ [⟨b, off, arr.size, e⟩], List.prefix_append _ _, ?_, hmk ⟨b, off, arr.size, e⟩ rfl rfl rfl (by simp only; omega) (fun i hi => rfl), hown _, .inr ⟨len0, (arr.toList.drop off).take (len0 * ks.length), by omega, ⟨by simp; omega, ?_⟩, rfl, rfl⟩⟩
      · have := VRel.sl (P := P) (ρ := ρ ++ [⟨b, off, arr.size, e⟩]) (off := 0) (n := len0) (c := capx) (c' := cap0) (hlast ⟨b, off, arr.size, e⟩) hlc (.inr rfl) (by simp only; rw [← hz]; omega)
        simpa using this
      · intro i hi
        obtain ⟨cs, hl, hsk, hc⟩ := hall i (by omega)
        have hin : i * ks.length + ks.length ≤ len0 * ks.length := by rw [← Nat.succ_mul]; exact Nat.mul_le_mul_right _ hi
        have : (((arr.toList.drop off).take (len0 * ks.length)).drop (i * ks.length)).take ks.length = cs := by
          apply List.ext_getElem?
          intro j
          rw [List.getElem?_take]
          split
          · rename_i hj
            rw [List.getElem?_drop, List.getElem?_take, if_pos (by omega), List.getElem?_drop, ← hc j hj]
            simp
          · rename_i hj
            rw [List.getElem?_eq_none (by omega)]
        rw [this]; exact hsk
end

section
open Go.WideElems
variable {D : Type} {enc : TypeId × Value → D} {P : Program}
theorem trodAll_stays (hl : laidOutB P = true) {W W' : World} (hb : Below W.heap.size W W') {sp : Nat → Bool} : ∀ {ts : List TypeId} {vs : List Value} {ds : List (DataW D)} {ps : List MemPlace}, DataW.TrodAll enc P W 0 (fun _ => true) true ts vs ds ps →
    (∀ t ∈ ts, P.readableRec t = true ∧ t < P.types.size) → (∀ x ∈ ps, x.block < W.heap.size) → (∀ x ∈ ps, sp x.block = true) → DataW.TrodAll enc P W' 0 sp true ts vs ds ps
  | [], vs, ds, ps, h, _, _, _ => by
    obtain ⟨rfl, rfl, rfl⟩ := trodAll_nil h
    exact trodAll_mk0
  | t :: ts, vs, ds, ps, h, ht, hp, hs => by
    obtain ⟨v, vs', d, ds', p, q, rfl, rfl, rfl, h1, h2⟩ := trodAll_cons h
    have h3 := ht t (by simp)
    exact trodAll_cons_mk (Trod_stays hl h3.1 h3.2 h1 (fun x hx => hb.same (hp x (by simp [hx]))) (fun x hx => hs x (by simp [hx])))
      (trodAll_stays hl hb h2 (fun t ht' => ht t (by simp [ht'])) (fun x hx => hp x (by simp [hx])) (fun x hx => hs x (by simp [hx])))
end
end Go.Proofs.Ytlboioplemlneaa.K
