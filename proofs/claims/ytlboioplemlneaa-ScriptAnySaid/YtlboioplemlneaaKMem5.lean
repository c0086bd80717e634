/- The last of K's operations: equality as an operation, maps, interfaces. -/
import Derived.Test.YtlboioplemlneaaKMem4
set_option linter.unusedVariables false
set_option linter.unusedSimpArgs false
namespace Go.Proofs.Ytlboioplemlneaa.K
open Go Go.RowKit

section
variable {P : Program} {B : Nat} {w0 w : World} {ρ : Rho} {H : Heap}

theorem eqv_ok {t : TypeId} {kk : EqK} (ht : EqT P t kk) (h1 : kk ≠ .s .int) (h2 : kk ≠ .s .str) {x y x' y' : Value} {b : Bool} (hx : VRel P ρ x x') (hy : VRel P ρ y y') (hk : kEq kk x y = some b) (neg : Bool)
    (ox oy : Operand) (hc : kk = .ifc → ∃ v, oy = .const v) (w : World) :
    (do eqGuard (if neg then .neq else .eql) t ox oy x' y'; binOp (if neg then .neq else .eql) t x' y').run P w = .ok (.bool (b != neg)) w := by
  have he := eqv_in ht hx hy hk 9998 w
  have he' : (Op.equal t x' y').run P w = .ok b w := he
  unfold kEq at hk
  split at hk
  · rename_i q
    cases q with
    | int => exact absurd rfl h1
    | str => exact absurd rfl h2
    | bool =>
      unfold kEq1 at hk
      split at hk
      · cases hx; cases hy
        cases neg <;> simp [eqGuard, binOp, he']
      · rename_i h; cases h
      · rename_i h; cases h
      · cases hk
  · cases hx
    cases hy <;> cases neg <;> simp [eqGuard, binOp, he']
  · cases hx; cases hy
    cases neg <;> simp [eqGuard, binOp, he']
  · cases hx
    cases hy <;> cases neg <;> simp [eqGuard, binOp, he']
  · cases hx <;> cases hy <;> cases neg <;> simp [eqGuard, binOp, he']
  · cases hx
    cases hy <;> cases neg <;> simp [eqGuard, binOp, he']
  · cases hx; cases hy
    cases neg <;> simp [eqGuard, binOp, he']
  · cases hx; cases hy
    cases neg <;> simp [eqGuard, binOp, he']
  · cases hx; cases hy
    cases neg <;> simp [eqGuard, binOp, he']
  · cases hx; cases hy
    obtain ⟨v, rfl⟩ := hc rfl
    cases neg <;> simp [eqGuard, binOp, he']
  · cases hx; cases hy
    cases neg <;> simp [eqGuard, binOp, he']
  · cases hx; cases hy
    have hgt := ht.1
    cases neg <;> simp [run_eqGuard_agg _ _ _ _ _ _ _ hgt, binOp, he']
  · cases hk

/- KEYS -/
theorem kKey1_eq {k : EqS} {x x' : Value} (h : kKey1 k x = true) (hx : VRel P ρ x x') : x' = x := by
  unfold kKey1 at h
  split at h <;> first
    | (cases h; done)
    | (cases hx; rfl)
theorem kKeyL_eq : ∀ {ks : List EqS} {xs xs' : List Value}, kKeyL ks xs = true → VL P ρ xs xs' → xs' = xs
  | [], [], xs', _, hv => List.eq_nil_of_length_eq_zero (by have := hv.1; simpa using this.symm)
  | [], _ :: _, _, h, _ => by simp [kKeyL] at h
  | _ :: _, [], _, h, _ => by simp [kKeyL] at h
  | k :: ks, x :: xs, xs', h, hv => by
    cases xs' with
    | nil => have := hv.1; simp at this
    | cons y ys =>
      simp only [kKeyL, Bool.and_eq_true] at h
      have h0 := hv.2 0 x y rfl rfl
      rw [kKey1_eq h.1 h0, kKeyL_eq h.2 (xs' := ys) ⟨by have := hv.1; simpa using this, fun i a b ha hb => hv.2 (i + 1) a b (by simpa using ha) (by simpa using hb)⟩]
theorem kKey_eq {kk : EqK} {x x' : Value} (h : kKey kk x = true) (hx : VRel P ρ x x') : x' = x := by
  unfold kKey at h
  split at h
  · exact kKey1_eq h hx
  · cases hx with
    | agg hs hv ho => rw [Array.ext' (kKeyL_eq h (VL.arr hs hv))]
  · cases h

theorem bits1 {k : EqS} {x : Value} (h : kKey1 k x = true) (n : Nat) : Instr.sameBits n x x = true := by
  unfold kKey1 at h
  split at h <;> first
    | (cases h; done)
    | (cases n <;> simp [Instr.sameBits, beq_toListBytes]; done)
theorem bitsL (n : Nat) : ∀ {ks : List EqS} {xs : List Value}, kKeyL ks xs = true → ((xs.zip xs).all fun (x, y) => Instr.sameBits n x y) = true
  | [], [], _ => rfl
  | [], _ :: _, h => by simp [kKeyL] at h
  | _ :: _, [], h => by simp [kKeyL] at h
  | k :: ks, x :: xs, h => by
    simp only [kKeyL, Bool.and_eq_true] at h
    simp only [List.zip_cons_cons, List.all_cons, Bool.and_eq_true]
    exact ⟨bits1 h.1 n, bitsL n h.2⟩
theorem bits {kk : EqK} {x : Value} (h : kKey kk x = true) (n : Nat) : Instr.sameBits (n + 1) x x = true := by
  unfold kKey at h
  split at h
  · exact bits1 h _
  · simp only [Instr.sameBits, Bool.and_eq_true]
    exact ⟨by simp, bitsL n h⟩
  · cases h

theorem kEq1_true {k : EqS} {x y : Value} (h : kEq1 k x y = some true) : x = y := by
  unfold kEq1 at h
  split at h
  · simp at h; rw [h]
  · split at h
    · rename_i hk; simp at h; rw [hk, h]
    · cases h
  · rename_i a b
    simp at h
    have : a = b := by
      rw [ByteArray.toList_eq, ByteArray.toList_eq] at h
      exact ByteArray.ext (Array.ext' h)
    rw [this]
  · cases h
theorem kEqL_true : ∀ {ks : List EqS} {xs ys : List Value}, kEqL ks xs ys = some true → xs = ys
  | [], [], [], _ => rfl
  | k :: ks, x :: xs, y :: ys, h => by
    simp only [kEqL] at h
    cases h1 : kEq1 k x y with
    | none => simp [h1] at h
    | some b =>
      cases b with
      | true => simp [h1] at h; rw [kEq1_true h1, kEqL_true h]
      | false =>
        simp only [h1, Option.bind_some, Bool.false_eq_true, if_false] at h
        split at h <;> simp at h
  | [], _ :: _, _, h => by simp [kEqL] at h
  | [], [], _ :: _, h => by simp [kEqL] at h
  | _ :: _, [], _, h => by simp [kEqL] at h
  | _ :: _, _ :: _, [], h => by simp [kEqL] at h
theorem kEq_true {kk : EqK} {x y : Value} (hk : kKey kk x = true) (h : kEq kk x y = some true) : x = y := by
  cases kk with
  | s k => exact kEq1_true h
  | agg ks =>
    cases x <;> simp only [kKey] at hk <;> try cases hk
    cases y <;> simp only [kEq] at h <;> try cases h
    rw [Array.ext' (kEqL_true h)]
  | _ => simp [kKey] at hk

theorem run_forUnit {α : Type} (f : α → Sem (ForInStep PUnit)) : ∀ (l : List α), (∀ a ∈ l, ∀ w : World, (f a).run P w = .ok (.yield ⟨⟩) w) → ∀ w : World,
    (ForIn.forIn (m := Sem) l PUnit.unit fun a _ => f a).run P w = .ok ⟨⟩ w
  | [], _, w => by simp
  | a :: l, h, w => by
    simp only [List.forIn_cons, Sem.run_bind, h a (by simp) w, Result.andThen_ok]
    exact run_forUnit f l (fun b hb => h b (by simp [hb])) w

theorem chk1 {t : TypeId} {k : EqS} (ht : EqTS P t k) {x : Value} (h : kKey1 k x = true) (em : Bool) (n : Nat) (w : World) : (Instr.checkKey em (n + 1) t x).run P w = .ok () w := by
  unfold kKey1 at h
  split at h
  · obtain ⟨k', ht⟩ := ht; rw [Instr.checkKey]; simp [run_underlying ht]
  · rw [Instr.checkKey]; simp [run_underlying (show P.underlying t = some .string from ht)]
  · rw [Instr.checkKey]; simp [run_underlying (show P.underlying t = some .bool from ht)]
  · cases h

theorem flat_at : ∀ {fs : List Field} {j : Nat} {ks : List EqS}, FlatF P fs j ks → fs.length = ks.length ∧ ∀ (i : Nat) f, fs[i]? = some f → f.name ≠ "_" ∧ f.offset = j + i ∧ ∃ k, ks[i]? = some k ∧ EqTS P f.type k
  | [], j, [], _ => ⟨rfl, fun i f h => by simp at h⟩
  | [], _, _ :: _, h => h.elim
  | _ :: _, _, [], h => h.elim
  | f :: fs, j, k :: ks, ⟨h1, h2, h3, h4⟩ => by
    obtain ⟨a, b⟩ := flat_at h4
    refine ⟨by simp [a], fun i g hg => ?_⟩
    cases i with
    | zero => simp at hg; subst hg; exact ⟨h1, by simpa using h2, k, rfl, h3⟩
    | succ i =>
      simp at hg
      obtain ⟨c1, c2, c3⟩ := b i g hg
      exact ⟨c1, by omega, by simpa using c3⟩

theorem keyL_at : ∀ {ks : List EqS} {xs : List Value}, kKeyL ks xs = true → ∀ (i : Nat) k, ks[i]? = some k → ∃ x, xs[i]? = some x ∧ kKey1 k x = true
  | [], [], _, i, k, h => by simp at h
  | [], _ :: _, h, _, _, _ => by simp [kKeyL] at h
  | _ :: _, [], h, _, _, _ => by simp [kKeyL] at h
  | k :: ks, x :: xs, h, i, q, hq => by
    simp only [kKeyL, Bool.and_eq_true] at h
    cases i with
    | zero => simp at hq; subst hq; exact ⟨x, rfl, h.1⟩
    | succ i => simp at hq; simpa using keyL_at h.2 i q hq

theorem chk_ok {t : TypeId} {kk : EqK} (ht : EqT P t kk) {x : Value} (h : kKey kk x = true) (em : Bool) (n : Nat) (w : World) : (Instr.checkKey em (n + 2) t x).run P w = .ok () w := by
  unfold kKey at h
  split at h
  · exact chk1 ht h em (n + 1) w
  · rename_i ks xs
    obtain ⟨_, ⟨fs, htt, _, hfl⟩ | ⟨len, e, k, i, htt, hi, hi1, hek, rfl⟩⟩ := ht
    · obtain ⟨hlen, hat⟩ := flat_at hfl
      rw [Instr.checkKey]
      simp only [Sem.run_bind, run_underlying htt, Result.andThen_ok]
      rw [← Array.forIn_toList]
      have := run_forUnit (P := P) (fun f : Field => if f.name ≠ "_" then do
          let a ← part f.type xs f.offset
          Instr.checkKey em (n + 1) f.type a
          pure (ForInStep.yield PUnit.unit) else pure (ForInStep.yield PUnit.unit)) fs.toList (fun f hf w => by
        obtain ⟨j, hj⟩ := List.mem_iff_getElem?.1 hf
        obtain ⟨c1, c2, k, hk, hks⟩ := hat j f hj
        obtain ⟨x, hx, hkx⟩ := keyL_at h j k hk
        obtain ⟨d, hd, hna⟩ := hks.one
        have p1 := run_part_one hd hna xs f.offset x (by rw [c2]; simpa using hx) w
        simp [c1, p1, chk1 hks hkx]) w
      simp at this ⊢
      rw [this]; rfl
    · rw [Instr.checkKey]
      have hsz : ∀ w : World, (sizeOf e).run P w = .ok i.size w := fun w => by simp [sizeOf, typeInfo, hi]
      simp only [Sem.run_bind, run_underlying htt, Result.andThen_ok, Std.Legacy.Range.forIn_eq_forIn_range', Std.Legacy.Range.size, Nat.sub_zero, Nat.add_sub_cancel, Nat.div_one]
      have := run_forUnit (P := P) (fun j : Nat => do
          let a ← sizeOf e
          let a ← part e xs (j * a)
          Instr.checkKey em (n + 1) e a
          pure (ForInStep.yield PUnit.unit)) (List.range' 0 len) (fun j hj w => by
        have hjl : j < len := by have := List.mem_range'_1.1 hj; omega
        obtain ⟨x, hx, hkx⟩ := keyL_at h j k (by simp [hjl])
        obtain ⟨d, hd, hna⟩ := hek.one
        have p1 := run_part_one hd hna xs (j * i.size) x (by rw [hi1]; simpa using hx) w
        simp [hsz, p1, chk1 hek hkx]) w
      simp at this ⊢
      rw [this]; rfl
  · cases h

/- FINDING AN ENTRY -/
def MR (P : Program) (ρ : Rho) (es es' : List MapEntry) : Prop := es'.length = es.length ∧ ∀ (i : Nat) x y, es[i]? = some x → es'[i]? = some y → ERelm P ρ x y

def foundV (r : Option (Nat × MapEntry)) (es' : List MapEntry) : Option (Nat × Value) := r.bind fun p => (es'[p.1]?).map fun e => (p.1, e.val)

theorem MR.tail {e e' : MapEntry} {es es' : List MapEntry} (h : MR P ρ (e :: es) (e' :: es')) : ERelm P ρ e e' ∧ MR P ρ es es' :=
  ⟨h.2 0 e e' rfl rfl, by have := h.1; simpa using this, fun i x y hx hy => h.2 (i + 1) x y (by simpa using hx) (by simpa using hy)⟩

theorem find_some {kk : EqK} {k : Value} : ∀ {es : List MapEntry} {i : Nat} {r : Option (Nat × MapEntry)}, kFind kk k es i = some r → ∀ p, r = some p → ∃ j, p.1 = i + j ∧ es[j]? = some p.2 ∧ kEq kk k p.2.key = some true
  | [], i, r, h, p, hp => by simp [kFind] at h; subst h; cases hp
  | e :: es, i, r, h, p, hp => by
    simp only [kFind] at h
    cases h1 : kEq kk k e.key with
    | none => simp [h1] at h
    | some b =>
      cases b with
      | true => simp [h1] at h; subst h; cases hp; exact ⟨0, rfl, rfl, h1⟩
      | false =>
        simp [h1] at h
        obtain ⟨j, a, b, c⟩ := find_some h p hp
        exact ⟨j + 1, by omega, by simpa using b, c⟩

theorem now_ok {t : TypeId} {q : EqS} {d : TypeDesc} (ht : EqTS P t q) (hd : P.underlying t = some d) {k : Value} : ∀ {es es' : List MapEntry} {i : Nat} {r : Option (Nat × MapEntry)}, MR P ρ es es' → kFind (.s q) k es i = some r →
    Instr.findNow d k es' i = some (r.bind fun p => (es'[p.1 - i]?).map fun e => (p.1, e.val))
  | [], es', i, r, hm, h => by
    have : es' = [] := List.eq_nil_of_length_eq_zero (by have := hm.1; simpa using this)
    subst this
    simp [kFind] at h; subst h; simp [Instr.findNow]
  | e :: es, [], i, r, hm, h => by have := hm.1; simp at this
  | e :: es, e' :: es', i, r, hm, h => by
    obtain ⟨he, hm'⟩ := hm.tail
    simp only [kFind, kEq] at h
    cases h1 : kEq1 q k e.key with
    | none => simp [h1] at h
    | some b =>
      have hkey : e'.key = e.key := (kEq1_inv (P := P) (ρ := ρ) h1).2 _ he.1
      have hsn : Instr.sameNow d k e'.key = some b := by
        rw [hkey]
        generalize e.key = y at h1
        cases q with
        | int =>
          obtain ⟨kk, ht⟩ := ht; rw [ht] at hd; cases hd
          unfold kEq1 at h1
          split at h1 <;> first
            | (rename_i h; cases h; done)
            | (simp only [Instr.sameNow]; exact h1)
            | cases h1
        | str =>
          rw [show P.underlying t = some .string from ht] at hd; cases hd
          unfold kEq1 at h1
          split at h1 <;> first
            | (rename_i h; cases h; done)
            | (simp only [Instr.sameNow, beq_toListBytes]; exact h1)
            | cases h1
        | bool =>
          rw [show P.underlying t = some .bool from ht] at hd; cases hd
          unfold kEq1 at h1
          split at h1 <;> first
            | (rename_i h; cases h; done)
            | (simp only [Instr.sameNow]; exact h1)
            | cases h1
      simp only [h1, Option.bind_some] at h
      simp only [Instr.findNow, hsn]
      cases b with
      | true => simp at h; subst h; simp
      | false =>
        simp only [Bool.false_eq_true, if_false] at h
        rw [now_ok ht hd hm' h]
        cases r with
        | none => rfl
        | some p =>
          obtain ⟨j, hj, _, _⟩ := find_some h p rfl
          simp only [Option.bind_some]
          rw [show p.1 - i = (p.1 - (i + 1)) + 1 by omega]
          simp

theorem asking_ok {t : TypeId} {kk : EqK} (ht : EqT P t kk) {k k' : Value} (hk : VRel P ρ k k') : ∀ {es es' : List MapEntry} {i : Nat} {r : Option (Nat × MapEntry)}, MR P ρ es es' → kFind kk k es i = some r → ∀ w : World,
    (Instr.findAsking t k' es' i).run P w = .ok (r.bind fun p => (es'[p.1 - i]?).map fun e => (p.1, e.val)) w
  | [], es', i, r, hm, h, w => by
    have : es' = [] := List.eq_nil_of_length_eq_zero (by have := hm.1; simpa using this)
    subst this
    simp [kFind] at h; subst h; simp [Instr.findAsking]
  | e :: es, [], i, r, hm, h, w => by have := hm.1; simp at this
  | e :: es, e' :: es', i, r, hm, h, w => by
    obtain ⟨he, hm'⟩ := hm.tail
    simp only [kFind] at h
    cases h1 : kEq kk k e.key with
    | none => simp [h1] at h
    | some b =>
      have he' : (Op.equal t k' e'.key).run P w = .ok b w := eqv_in ht hk he.1 h1 9998 w
      simp only [h1, Option.bind_some] at h
      simp only [Instr.findAsking, Sem.run_bind, he', Result.andThen_ok]
      cases b with
      | true => simp at h; subst h; simp
      | false =>
        simp only [Bool.false_eq_true, if_false] at h ⊢
        rw [asking_ok ht hk hm' h w]
        cases r with
        | none => rfl
        | some p =>
          obtain ⟨j, hj, _, _⟩ := find_some h p rfl
          simp only [Option.bind_some]
          rw [show p.1 - i = (p.1 - (i + 1)) + 1 by omega]
          simp

theorem findKey_ok {t : TypeId} {kk : EqK} (ht : EqT P t kk) {k : Value} (hkey : kKey kk k = true) {es es' : List MapEntry} {r : Option (Nat × MapEntry)} (hm : MR P ρ es es') (h : kFind kk k es 0 = some r) (w : World) :
    (Instr.findKey t k es').run P w = .ok (foundV r es') w := by
  have hv : VRel P ρ k k := by
    unfold kKey at hkey
    split at hkey
    · unfold kKey1 at hkey
      split at hkey <;> first
        | exact .int _ _
        | exact .string _
        | exact .bool _
        | cases hkey
    · rename_i ks xs
      have h1 : ∀ (i : Nat) x, xs[i]? = some x → ∃ k, kKey1 k x = true := by
        intro i x hx
        have : ∀ (ks : List EqS) (l : List Value), kKeyL ks l = true → ∀ (i : Nat) x, l[i]? = some x → ∃ k, kKey1 k x = true := by
          intro ks l
          induction l generalizing ks with
          | nil => intro _ i x hx; simp at hx
          | cons y l ih =>
            intro h i x hx
            cases ks with
            | nil => simp [kKeyL] at h
            | cons k ks =>
              simp only [kKeyL, Bool.and_eq_true] at h
              cases i with
              | zero => simp at hx; subst hx; exact ⟨k, h.1⟩
              | succ i => simp at hx; exact ih ks h.2 i x hx
        exact this ks xs.toList hkey i x (by simpa using hx)
      have h2 : ∀ {k : EqS} {x : Value}, kKey1 k x = true → VRel P ρ x x ∧ oneC x = true := by
        intro k x h
        unfold kKey1 at h
        split at h <;> first
          | exact ⟨.int _ _, rfl⟩
          | exact ⟨.string _, rfl⟩
          | exact ⟨.bool _, rfl⟩
          | cases h
      exact .agg rfl (fun i x y hx hy => by rw [hx] at hy; cases hy; obtain ⟨k, hk⟩ := h1 i x hx; exact (h2 hk).1) (fun i x hx => by obtain ⟨k, hk⟩ := h1 i x hx; exact (h2 hk).2)
    · cases hkey
  unfold Instr.findKey
  cases kk with
  | s q =>
    obtain ⟨d, hd, _⟩ := EqTS.one (P := P) ht
    have := now_ok (P := P) (ρ := ρ) ht hd hm h
    simp only [Sem.run_bind, run_underlying hd, Result.andThen_ok, this, Sem.run_pure]
    rfl
  | agg ks =>
    have hdd : ∃ d, P.underlying t = some d ∧ ∀ v y, Instr.sameNow d (.agg v) y = none := by
      obtain ⟨_, ⟨fs, htt, _⟩ | ⟨len, e, k, i, htt, _⟩⟩ := ht
      · exact ⟨_, htt, fun v y => by simp [Instr.sameNow]⟩
      · exact ⟨_, htt, fun v y => by simp [Instr.sameNow]⟩
    obtain ⟨d, hd, hsn⟩ := hdd
    cases k <;> simp only [kKey] at hkey <;> try cases hkey
    rename_i xs
    simp only [Sem.run_bind, run_underlying hd, Result.andThen_ok]
    cases es' with
    | nil =>
      have : es = [] := List.eq_nil_of_length_eq_zero (by have := hm.1; simpa using this.symm)
      subst this
      simp [kFind] at h
      subst h
      simp [Instr.findNow, foundV]
    | cons e' es' =>
      simp only [Instr.findNow, hsn]
      have := asking_ok ht hv hm h w
      rw [this]
      simp [foundV]
  | _ => simp [kKey] at hkey

/- MAPS -/
theorem map_inv {b : Nat} {es : List MapEntry} {clock : Nat} {L : Loc} (h : HRel P B w0 ρ H w) (hg : H.get b = .map es clock) (hL : ρ[b]? = some L) :
    ∃ es' : Array MapEntry, w.heap[L.block]? = some (.map es' clock) ∧ MR P ρ es es'.toList := by
  have := h.blk b L hL
  rw [hg] at this
  obtain ⟨es', h1, h2, h3⟩ := this
  exact ⟨es', h1, by simpa using h2, fun i x y hx hy => h3 i x y hx (by simpa using hy)⟩

theorem run_getMap {r : Nat} {es : Array MapEntry} {c : Nat} (hr : w.heap[r]? = some (.map es c)) : (getObj r).run P w = .ok (.map es c) w := by
  simp [getObj, Sem.run, hr]

theorem set_map (h : HRel P B w0 ρ H w) {b : Nat} {es es2 : List MapEntry} {c c2 : Nat} {L : Loc} (hg : H.get b = .map es c) (hL : ρ[b]? = some L) {es' : Array MapEntry} (hm : MR P ρ es2 es'.toList) :
    ∃ w', (setObj L.block (.map es' c2)).run P w = .ok () w' ∧ HRel P B w0 ρ (H.put b (.map es2 c2)) w' := by
  obtain ⟨es1, h1, _⟩ := map_inv h hg hL
  have hlt : L.block < w.heap.size := (Array.getElem?_eq_some_iff.1 h1).1
  refine ⟨{ w with heap := w.heap.setIfInBounds L.block (.map es' c2) }, by simp [setObj, Sem.run, h1], ?_⟩
  have hB := h.own b L hL (by rw [hg]; rfl)
  refine h.put (b := b) (by rw [hg]; rfl) hL ?_ ⟨rfl, rfl, rfl, by simp, fun k hk => ?_⟩ (fun i hi => ?_)
  · exact ⟨es', by simp [hlt], by simpa using hm.1, fun i x y hx hy => hm.2 i x y hx (by simpa using hy)⟩
  · show (w.heap.setIfInBounds L.block _)[k]? = _
    rw [Array.getElem?_setIfInBounds_ne (by omega)]
  · show (w.heap.setIfInBounds L.block _)[i]? = _
    rw [Array.getElem?_setIfInBounds_ne (fun e => hi e.symm)]

theorem VRel.map_inv {x' : Value} {r : Nat} (h : VRel P ρ (.map (some r)) x') : ∃ L, ρ[r]? = some L ∧ x' = .map (some L.block) := by
  cases h with | map hb => exact ⟨_, hb, rfl⟩

theorem MR.set {es es' : List MapEntry} (h : MR P ρ es es') {e e' : MapEntry} (he : ERelm P ρ e e') (i : Nat) : MR P ρ (es.set i e) (es'.set i e') :=
  ⟨by simp [h.1], fun j x y hx hy => by
    rw [List.getElem?_set] at hx hy
    split at hx
    · rename_i hij
      rw [if_pos hij] at hy
      split at hx
      · split at hy
        · cases hx; cases hy; exact he
        · cases hy
      · cases hx
    · rename_i hij
      rw [if_neg hij] at hy
      exact h.2 j x y hx hy⟩
theorem MR.push {es es' : List MapEntry} (h : MR P ρ es es') {e e' : MapEntry} (he : ERelm P ρ e e') : MR P ρ (es ++ [e]) (es' ++ [e']) :=
  ⟨by simp [h.1], fun j x y hx hy => by
    rcases Nat.lt_or_ge j es.length with hlt | hge
    · rw [List.getElem?_append_left hlt] at hx
      rw [List.getElem?_append_left (by rw [h.1]; exact hlt)] at hy
      exact h.2 j x y hx hy
    · rw [List.getElem?_append_right hge] at hx
      rw [List.getElem?_append_right (by rw [h.1]; exact hge), h.1] at hy
      cases hj : j - es.length with
      | zero => rw [hj] at hx hy; simp at hx hy; subst hx; subst hy; exact he
      | succ n => rw [hj] at hx; simp at hx⟩

theorem modify_set (es : Array MapEntry) (i : Nat) (e : MapEntry) (f : MapEntry → MapEntry) (h : es[i]? = some e) : (es.modify i f).toList = es.toList.set i (f e) := by
  rw [Array.toList_modify]
  apply List.ext_getElem?
  intro j
  have h' : es.toList[i]? = some e := by simpa using h
  have hlt : i < es.toList.length := (List.getElem?_eq_some_iff.1 h').1
  rw [List.getElem?_modify, List.getElem?_set]
  by_cases hij : i = j
  · subst hij; rw [h', if_pos rfl, if_pos hlt]; simp
  · rw [if_neg hij]; simp [hij]

theorem found {kk : EqK} {k : Value} {es : List MapEntry} {es' : Array MapEntry} (hm : MR P ρ es es'.toList) (hkey : kKey kk k = true) {i : Nat} {e : MapEntry} (hf : kFind kk k es 0 = some (some (i, e))) :
    ∃ e', es'[i]? = some e' ∧ ERelm P ρ e e' ∧ e.key = k ∧ e'.key = k ∧ foundV (some (i, e)) es'.toList = some (i, e'.val) ∧ es[i]? = some e := by
  obtain ⟨j, hj, he, hq⟩ := find_some hf (i, e) rfl
  simp at hj
  subst hj
  simp only at he hq
  have hlt : i < es'.toList.length := by rw [hm.1]; exact (List.getElem?_eq_some_iff.1 he).1
  have hlt' : i < es'.size := by simpa using hlt
  have hkk := kEq_true hkey hq
  have hrel := hm.2 i e es'[i] he (by simp [hlt'])
  refine ⟨es'[i], by simp [hlt'], hrel, hkk.symm, ?_, by simp [foundV, hlt'], he⟩
  exact kKey_eq hkey (by have := hrel.1; rw [← hkk] at this; exact this)

theorem lkp_ok {t kt et : TypeId} {kk : EqK} {i : TypeInfo} {z : Value} (ht : P.underlying t = some (.map kt et)) (hkt : EqT P kt kk) (hi : P.info? et = some i) (hz : i.zero = some z) (hzg : VRel P [] z z)
    {m m' k k' v : Value} {ok : Bool} (h : HRel P B w0 ρ H w) (hm : VRel P ρ m m') (hk : VRel P ρ k k')
    (hr : ((kMap H m).bind fun p => if kKey kk k then (kFind kk k p.1 0).map fun
      | some (_, en) => (if ok then Value.tuple #[en.val, .bool true] else en.val, H)
      | none => (if ok then .tuple #[z, .bool false] else z, H) else none) = some (v, H)) : Gives P B w0 ρ (Instr.lookup t m' k' ok) w v H := by
  cases hkm : kMap H m with
  | none => simp [hkm] at hr
  | some p =>
    obtain ⟨es, c⟩ := p
    simp only [hkm, Option.bind_some] at hr
    split at hr
    · rename_i hkey
      have hke := kKey_eq hkey hk
      subst hke
      cases hf : kFind kk k' es 0 with
      | none => simp [hf] at hr
      | some r =>
        have hesr : ∃ es' : Array MapEntry, MR P ρ es es'.toList ∧ ((m' = .map none ∧ es' = #[]) ∨ ∃ r c, m' = .map (some r) ∧ w.heap[r]? = some (.map es' c)) := by
          unfold kMap at hkm
          split at hkm
          · rename_i r
            obtain ⟨L, hL, rfl⟩ := hm.map_inv
            split at hkm
            · rename_i es0 c0 hg
              cases hkm
              obtain ⟨es', h1, h2⟩ := map_inv h hg hL
              exact ⟨es', h2, .inr ⟨_, _, rfl, h1⟩⟩
            · cases hkm
          · cases hkm
            cases hm
            exact ⟨#[], ⟨rfl, fun i x y hx => by simp at hx⟩, .inl ⟨rfl, rfl⟩⟩
          · cases hkm
        obtain ⟨es', hmr, hK⟩ := hesr
        have hck := chk_ok hkt hkey es'.isEmpty 9998
        have hfk := findKey_ok hkt hkey hmr hf
        simp only [hf, Option.map_some] at hr
        have hrun : (Instr.lookup t m' k' ok).run P w = (do
            Instr.checkKey es'.isEmpty 10000 kt k'
            let (v, b) ← match ← Instr.findKey kt k' es'.toList with
              | some (_, v) => pure (v, true)
              | none => pure (← zeroValue et, false)
            pure (if ok then .tuple #[v, .bool b] else v) : Sem Value).run P w := by
          rcases hK with ⟨rfl, rfl⟩ | ⟨r, c, rfl, h1⟩
          · unfold Instr.lookup
            simp only [Sem.run_bind, run_underlying ht, Result.andThen_ok, Sem.run_pure]
            rfl
          · unfold Instr.lookup
            simp only [Sem.run_bind, run_underlying ht, Result.andThen_ok, Sem.run_pure, run_getMap h1]
            rfl
        cases r with
        | none =>
          simp only [Option.some.injEq, Prod.mk.injEq] at hr
          obtain ⟨rfl, _⟩ := hr
          refine Gives.same h (v' := if ok then .tuple #[z, .bool false] else z) ?_ ?_
          · rw [hrun]
            simp [hck, hfk, foundV, zeroValue, typeInfo, hi, hz]
          · cases ok
            · exact hzg.mono List.nil_prefix
            · exact .tuple rfl (fun j x y hx hy => by
                rcases j with _ | _ | j
                · simp at hx hy; subst hx; subst hy; exact hzg.mono List.nil_prefix
                · simp at hx hy; subst hx; subst hy; exact .bool _
                · simp at hx)
        | some p =>
          obtain ⟨j, e⟩ := p
          obtain ⟨e', he', hrel, _, _, hfv, _⟩ := found hmr hkey hf
          simp only [Option.some.injEq, Prod.mk.injEq] at hr
          obtain ⟨rfl, _⟩ := hr
          refine Gives.same h (v' := if ok then .tuple #[e'.val, .bool true] else e'.val) ?_ ?_
          · rw [hrun]
            simp [hck, hfk, hfv]
          · cases ok
            · exact hrel.2.1
            · exact .tuple rfl (fun j x y hx hy => by
                rcases j with _ | _ | j
                · simp at hx hy; subst hx; subst hy; exact hrel.2.1
                · simp at hx hy; subst hx; subst hy; exact .bool _
                · simp at hx)
    · cases hr

theorem stays {kk : EqK} {k : Value} (hkey : kKey kk k = true) (w : World) : (Instr.keyThatStays k k).run P w = .ok k w := by
  simp [Instr.keyThatStays, bits hkey 9999]

theorem mup_ok {t kt et : TypeId} {kk : EqK} (ht : P.underlying t = some (.map kt et)) (hkt : EqT P kt kk) {m m' k k' v v' : Value} {H' : Heap} (h : HRel P B w0 ρ H w) (hm : VRel P ρ m m') (hk : VRel P ρ k k') (hv : VRel P ρ v v')
    (hr : kMup H kk m k v = some H') : GivesU P B w0 ρ (Instr.mapUpdate t m' k' v') w H' := by
  unfold kMup at hr
  split at hr
  · rename_i r
    obtain ⟨L, hL, rfl⟩ := hm.map_inv
    split at hr
    · rename_i es c hg
      split at hr
      · rename_i hkey
        have hke := kKey_eq hkey hk
        subst hke
        obtain ⟨es', h1, hmr⟩ := map_inv h hg hL
        cases hf : kFind kk k' es 0 with
        | none => simp [hf] at hr
        | some q =>
          have hfk := findKey_ok hkt hkey hmr hf
          have hck := chk_ok hkt hkey false 9998
          simp only [hf, Option.map_some, Option.some.injEq] at hr
          cases q with
          | none =>
            simp only at hr
            subst hr
            have he : ERelm P ρ { key := k', val := v, born := c } { key := k', val := v', born := c } := ⟨hk, hv, rfl⟩
            obtain ⟨w', hw, hH⟩ := set_map h hg hL (c2 := c + 1) (es' := es'.push { key := k', val := v', born := c }) (by simpa using hmr.push he)
            exact ⟨ρ, w', by simp [Instr.mapUpdate, run_underlying ht, run_getMap h1, hck, hfk, foundV, hw], List.prefix_refl _, hH⟩
          | some p =>
            obtain ⟨j, e⟩ := p
            obtain ⟨e', he', hrel, hek, hek', hfv, hej⟩ := found hmr hkey hf
            simp only at hr
            subst hr
            have he : ERelm P ρ { e with key := k', val := v } { e' with key := k', val := v' } := ⟨hk, hv, hrel.2.2⟩
            obtain ⟨w', hw, hH⟩ := set_map h hg hL (c2 := c) (es' := es'.modify j fun e => { e with key := k', val := v' }) (by
              rw [modify_set es' j e' _ he']; exact hmr.set he j)
            exact ⟨ρ, w', by simp [Instr.mapUpdate, run_underlying ht, run_getMap h1, hck, hfk, hfv, he', hek', stays hkey, hw], List.prefix_refl _, hH⟩
      · cases hr
    · cases hr
  · cases hr

theorem tup2 {a a' b b' : Value} (ha : VRel P ρ a a') (hb : VRel P ρ b b') : VRel P ρ (.tuple #[a, b]) (.tuple #[a', b']) :=
  .tuple rfl (fun j x y hx hy => by
    rcases j with _ | _ | j
    · simp at hx hy; subst hx; subst hy; exact ha
    · simp at hx hy; subst hx; subst hy; exact hb
    · simp at hx)

theorem men_ok {t kt et : TypeId} {kk : EqK} {i : TypeInfo} {z : Value} (ht : P.underlying t = some (.map kt et)) (hkt : EqT P kt kk) (hi : P.info? et = some i) (hz : i.zero = some z) (hzg : VRel P [] z z)
    {m m' k k' v : Value} {H' : Heap} (h : HRel P B w0 ρ H w) (hm : VRel P ρ m m') (hk : VRel P ρ k k') (hr : kMen H kk z m k = some (v, H')) : Gives P B w0 ρ (Instr.mapEntry t m' k') w v H' := by
  unfold kMen at hr
  split at hr
  · rename_i r
    obtain ⟨L, hL, rfl⟩ := hm.map_inv
    split at hr
    · rename_i es c hg
      split at hr
      · rename_i hkey
        have hke := kKey_eq hkey hk
        subst hke
        obtain ⟨es', h1, hmr⟩ := map_inv h hg hL
        cases hf : kFind kk k' es 0 with
        | none => simp [hf] at hr
        | some q =>
          have hfk := findKey_ok hkt hkey hmr hf
          have hck := chk_ok hkt hkey false 9998
          simp only [hf, Option.map_some, Option.some.injEq] at hr
          have hzz : VRel P ρ z z := hzg.mono List.nil_prefix
          cases q with
          | none =>
            simp only [Prod.mk.injEq] at hr
            obtain ⟨rfl, rfl⟩ := hr
            have he : ERelm P ρ { key := k', val := z, born := c } { key := k', val := z, born := c } := ⟨hk, hzz, rfl⟩
            obtain ⟨w', hw, hH⟩ := set_map h hg hL (c2 := c + 1) (es' := es'.push { key := k', val := z, born := c }) (by simpa using hmr.push he)
            exact ⟨ρ, _, w', by simp [Instr.mapEntry, run_underlying ht, run_getMap h1, hck, hfk, foundV, zeroValue, typeInfo, hi, hz, hw, goInt], List.prefix_refl _, tup2 hzz (.int _ _), hH⟩
          | some p =>
            obtain ⟨j, e⟩ := p
            obtain ⟨e', he', hrel, hek, hek', hfv, hej⟩ := found hmr hkey hf
            simp only [Prod.mk.injEq] at hr
            obtain ⟨rfl, rfl⟩ := hr
            have he : ERelm P ρ { e with key := k' } { e' with key := k' } := ⟨hk, hrel.2.1, hrel.2.2⟩
            obtain ⟨w', hw, hH⟩ := set_map h hg hL (c2 := c) (es' := es'.modify j fun e => { e with key := k' }) (by
              rw [modify_set es' j e' _ he']; exact hmr.set he j)
            refine ⟨ρ, .tuple #[e'.val, .int .i64 e'.born], w', by simp [Instr.mapEntry, run_underlying ht, run_getMap h1, hck, hfk, hfv, he', hek', stays hkey, hw, goInt], List.prefix_refl _, ?_, hH⟩
            rw [hrel.2.2]
            exact tup2 hrel.2.1 (.int _ _)
      · cases hr
    · cases hr
  · cases hr

theorem born_eq {es : List MapEntry} {es' : Array MapEntry} (hm : MR P ρ es es'.toList) (b : Int) : es'.findIdx? (fun e => (e.born : Int) == b) = findBorn es b := by
  have h : ∀ (l l' : List MapEntry), MR P ρ l l' → l'.findIdx? (fun e => (e.born : Int) == b) = l.findIdx? fun e => (e.born : Int) == b := by
    intro l
    induction l with
    | nil => intro l' h; have : l' = [] := List.eq_nil_of_length_eq_zero (by have := h.1; simpa using this); subst this; rfl
    | cons e l ih =>
      intro l' h
      cases l' with
      | nil => have := h.1; simp at this
      | cons e' l' =>
        obtain ⟨he, ht⟩ := h.tail
        simp only [List.findIdx?_cons, he.2.2, ih l' ht]
  have e1 : es'.findIdx? (fun e => (e.born : Int) == b) = es'.toList.findIdx? (fun e => (e.born : Int) == b) := by
    obtain ⟨l⟩ := es'
    exact List.findIdx?_toArray _ _
  rw [e1, h es es'.toList hm]; rfl

theorem mes_ok {t : TypeId} {m m' s s' v v' : Value} {H' : Heap} (h : HRel P B w0 ρ H w) (hm : VRel P ρ m m') (hs : VRel P ρ s s') (hv : VRel P ρ v v') (hr : kMes H m s v = some H') :
    GivesU P B w0 ρ (Instr.entryStore t m' s' v') w H' := by
  unfold kMes at hr
  split at hr
  · rename_i r k b
    obtain ⟨L, hL, rfl⟩ := hm.map_inv
    cases hs
    split at hr
    · rename_i es c hg
      obtain ⟨es', h1, hmr⟩ := map_inv h hg hL
      have hb := born_eq hmr b
      split at hr
      · rename_i i hfi
        rw [hfi] at hb
        split at hr
        · rename_i e he
          cases hr
          have hlt : i < es'.size := by have := (List.getElem?_eq_some_iff.1 he).1; have := hmr.1; simp at this; omega
          have hrel := hmr.2 i e es'[i] he (by simp [hlt])
          have he2 : ERelm P ρ { e with val := v } { es'[i] with val := v' } := ⟨hrel.1, hv, hrel.2.2⟩
          obtain ⟨w', hw, hH⟩ := set_map h hg hL (c2 := c) (es' := es'.modify i fun e => { e with val := v' }) (by
              rw [modify_set es' i es'[i] _ (by simp [hlt])]; exact hmr.set he2 i)
          exact ⟨ρ, w', by simp [Instr.entryStore, run_getMap h1, asInt, asIntOf, hb, hw], List.prefix_refl _, hH⟩
        · cases hr
      · cases hr
    · cases hr
  · cases hr

theorem mkm_ok (t : TypeId) (h : HRel P B w0 ρ H w) : Gives P B w0 ρ (Instr.makeMap t none) w (.map (some H.next)) (H.push (.map [] 0)) := by
  have hH : HRel P B w0 (ρ ++ [⟨w.heap.size, 0, 0, 0⟩]) (H.push (.map [] 0)) (w.alloc (.map #[] 0)) :=
    h.push rfl ⟨#[], heap_alloc_new w _, rfl, fun i x y hx => by simp at hx⟩
  exact ⟨_, .map (some w.heap.size), _, by simp [Instr.makeMap, newObj, Sem.run], List.prefix_append _ _, .map (new_last h _), hH⟩

theorem del_ok {t kt et ty : TypeId} {kk : EqK} (ht : P.underlying t = some (.map kt et)) (hkt : EqT P kt kk) {ats : Array TypeId} (hm0 : ats[0]? = some t) {m m' k k' : Value} {H' : Heap} (h : HRel P B w0 ρ H w) (hm : VRel P ρ m m') (hk : VRel P ρ k k')
    (hr : kDel H kk m k = some H') : Gives P B w0 ρ (Builtin.delete_ ats ty #[m', k']) w (.tuple #[]) H' := by
  have htup : ∀ ρ : Rho, VRel P ρ (.tuple #[]) (.tuple #[]) := fun ρ => .tuple rfl (fun j x y hx => by simp at hx)
  unfold kDel at hr
  split at hr
  · cases hm
    split at hr
    · rename_i hkey
      cases hr
      have hke := kKey_eq hkey hk
      subst hke
      exact Gives.same h (by simp [Builtin.delete_, hm0, run_underlying ht, chk_ok hkt hkey true 9998]) (htup ρ)
    · cases hr
  · rename_i r
    obtain ⟨L, hL, rfl⟩ := hm.map_inv
    split at hr
    · rename_i es c hg
      split at hr
      · rename_i hkey
        have hke := kKey_eq hkey hk
        subst hke
        obtain ⟨es', h1, hmr⟩ := map_inv h hg hL
        cases hf : kFind kk k' es 0 with
        | none => simp [hf] at hr
        | some q =>
          have hfk := findKey_ok hkt hkey hmr hf
          have hck := chk_ok hkt hkey es'.isEmpty 9998
          simp only [hf, Option.map_some, Option.some.injEq] at hr
          cases q with
          | none =>
            simp only at hr
            subst hr
            obtain ⟨w', hw, hH⟩ := set_map h hg hL (c2 := c) (es' := es') hmr
            rw [← hg, Heap.put_self] at hH
            exact ⟨ρ, _, w', by simp [Builtin.delete_, hm0, run_underlying ht, run_getMap h1, hck, hfk, foundV, hw], List.prefix_refl _, htup ρ, hH⟩
          | some p =>
            obtain ⟨j, e⟩ := p
            obtain ⟨e', he', hrel, hek, hek', hfv, hej⟩ := found hmr hkey hf
            simp only at hr
            subst hr
            have hmr2 : MR P ρ (es.eraseIdx j) (es'.eraseIdxIfInBounds j).toList := by
              have e1 : (es'.eraseIdxIfInBounds j).toList = es'.toList.eraseIdx j := by simp
              rw [e1]
              refine ⟨by simp [List.length_eraseIdx, hmr.1], fun i x y hx hy => ?_⟩
              rw [List.getElem?_eraseIdx] at hx hy
              split at hx
              · rename_i hlt; rw [if_pos hlt] at hy; exact hmr.2 i x y hx hy
              · rename_i hlt; rw [if_neg hlt] at hy; exact hmr.2 _ x y hx hy
            obtain ⟨w', hw, hH⟩ := set_map h hg hL (c2 := c) hmr2
            exact ⟨ρ, _, w', by simp [Builtin.delete_, hm0, run_underlying ht, run_getMap h1, hck, hfk, hfv, hw], List.prefix_refl _, htup ρ, hH⟩
      · cases hr
    · cases hr
  · cases hr

/- INTERFACES -/
def isIfaceD : TypeDesc → Bool
  | .interface _ => true
  | _ => false

theorem tas_ok {xt t : TypeId} {d : TypeDesc} {i : TypeInfo} {z : Value} (hd : P.underlying t = some d) (hni : isIfaceD d = false) (hi : P.info? t = some i) (hz : i.zero = some z) (hzg : VRel P [] z z)
    {x x' v : Value} {ok : Bool} (h : HRel P B w0 ρ H w) (hx : VRel P ρ x x')
    (hr : kTas H t z ok x = some (v, H)) : Gives P B w0 ρ (Instr.typeAssert x' xt t ok) w v H := by
  have hzz : VRel P ρ z z := hzg.mono List.nil_prefix
  have hone : ∀ (t' : TypeId) (u : Value), (Instr.typeAssert (.iface t' u) xt t ok).run P w = if t' = t then .ok (if ok then .tuple #[u, .bool true] else u) w else (if ok then Result.ok (.tuple #[z, .bool false]) w else (runtimePanic (.typeAssertion (some xt) (some t') t "")).run P w) := by
    intro t' u
    cases d <;> first
      | (simp [isIfaceD] at hni; done)
      | (simp only [Instr.typeAssert, Sem.run_bind, run_underlying hd, Result.andThen_ok, Sem.run_ite, Sem.run_pure, zeroValue, typeInfo, run_program, hi, hz])
  have hnil : (Instr.typeAssert .nilIface xt t ok).run P w = (if ok then Result.ok (.tuple #[z, .bool false]) w else (runtimePanic (.typeAssertion (some xt) none t "")).run P w) := by
    cases d <;> first
      | (simp [isIfaceD] at hni; done)
      | (simp only [Instr.typeAssert, Sem.run_bind, run_underlying hd, Result.andThen_ok, Sem.run_ite, Sem.run_pure, zeroValue, typeInfo, run_program, hi, hz])
  unfold kTas at hr
  cases hx <;> simp only at hr <;> try (cases hr; done)
  · split at hr
    · rename_i hok
      subst hok
      simp only [Option.some.injEq, Prod.mk.injEq] at hr
      obtain ⟨rfl, _⟩ := hr
      exact Gives.same h (v' := .tuple #[z, .bool false]) (by rw [hnil]; simp) (tup2 hzz (.bool _))
    · cases hr
  · rename_i t' u u' hu
    split at hr
    · rename_i htt
      simp only [Option.some.injEq, Prod.mk.injEq] at hr
      obtain ⟨rfl, _⟩ := hr
      refine Gives.same h (v' := if ok then .tuple #[u', .bool true] else u') (by rw [hone, if_pos htt]) ?_
      cases ok
      · exact hu
      · exact tup2 hu (.bool _)
    · rename_i htt
      split at hr
      · rename_i hok
        subst hok
        simp only [Option.some.injEq, Prod.mk.injEq] at hr
        obtain ⟨rfl, _⟩ := hr
        exact Gives.same h (v' := .tuple #[z, .bool false]) (by rw [hone, if_neg htt]; simp) (tup2 hzz (.bool _))
      · cases hr

end
end Go.Proofs.Ytlboioplemlneaa.K
