/- More of K's operations: numbers, texts, parts of structs and arrays, equality, maps. -/
import Derived.Test.YtlboioplemlneaaKMem3
set_option linter.unusedVariables false
set_option linter.unusedSimpArgs false
namespace Go.Proofs.Ytlboioplemlneaa.K
open Go Go.RowKit

section
variable {P : Program} {B : Nat} {w0 w : World} {ρ : Rho} {H : Heap}

/- NUMBERS AND TEXTS -/
theorem int_ok {o : BinOp} {k : IntKind} {a b : Int} {v : Value} (t : TypeId) (hk : kInt o k a b = some v) (w : World) : (binOp o t (.int k a) (.int k b)).run P w = .ok v w ∧ VRel P ρ v v := by
  cases o <;> simp only [kInt] at hk <;> first
    | (cases hk; done)
    | (split at hk
       · cases hk
       · rename_i hne
         cases hk
         exact ⟨by simp [binOp, Op.intDiv, hne], .int _ _⟩)
    | (cases hk
       exact ⟨by simp [binOp, Op.intArith, Op.intBits, Op.intCmp], by first | exact .int _ _ | exact .bool _⟩)

theorem str_ok {o : BinOp} {a b : ByteArray} {v : Value} (t : TypeId) (hk : kStr o a b = some v) (w : World) : (binOp o t (.string a) (.string b)).run P w = .ok v w ∧ VRel P ρ v v := by
  cases o <;> simp only [kStr] at hk <;> first
    | (cases hk; done)
    | (split at hk
       · cases hk
       · rename_i hne
         cases hk
         have hne' : ((a.size + b.size : Nat) : Int) ≤ IntKind.i64.max := by omega
         exact ⟨by simp only [binOp, Op.stringOp]; rw [if_neg (by omega)]; rfl, .string _⟩)
    | (cases hk
       exact ⟨by simp [binOp, Op.stringOp], .bool _⟩)

theorem bin_ok {o : BinOp} {x y x' y' v : Value} (t : TypeId) (hx : VRel P ρ x x') (hy : VRel P ρ y y') (hk : kBin o x y = some v) (w : World) :
    (binOp o t x' y').run P w = .ok v w ∧ VRel P ρ v v ∧ ∀ op ox oy, (eqGuard op t ox oy x' y').run P w = .ok () w := by
  unfold kBin at hk
  split at hk
  · rename_i k a k' b
    cases hx; cases hy
    refine ⟨?_, ?_, fun op ox oy => by cases op <;> simp [eqGuard]⟩
    all_goals
      split at hk
      · split at hk
        · cases hk
        · rename_i hb
          cases hk
          first
            | exact .int _ _
            | simp [binOp, Op.shift, hb]
      · split at hk
        · cases hk
        · rename_i hb
          cases hk
          first
            | exact .int _ _
            | simp [binOp, Op.shift, hb]
      · split at hk
        · rename_i hkk
          subst hkk
          first
            | exact (int_ok (P := P) (ρ := ρ) t hk w).1
            | exact (int_ok (P := P) (ρ := ρ) t hk w).2
        · cases hk
  · cases hx; cases hy
    have := str_ok (P := P) (ρ := ρ) t hk w
    exact ⟨this.1, this.2, fun op ox oy => by cases op <;> simp [eqGuard]⟩
  · cases hk

theorem un_ok {o : UnOp} {x x' v : Value} (hx : VRel P ρ x x') (hk : kUn o x = some v) (w : World) : (Op.unary o x').run P w = .ok v w ∧ VRel P ρ v v := by
  unfold kUn at hk
  split at hk
  · cases hx
    cases o <;> simp only at hk <;> first
      | (cases hk; done)
      | (cases hk; exact ⟨by simp [Op.unary, Op.intArith, Op.intBits], .int _ _⟩)
  · cases hx
    cases o <;> simp only at hk <;> first
      | (cases hk; done)
      | (cases hk; exact ⟨by simp [Op.unary], .bool _⟩)
  · cases hk

theorem cvt_ok {src dst : TypeId} {d : TypeDesc} {k : IntKind} (hs : P.underlying src = some d) (hd : P.underlying dst = some (.int k)) (j : IntKind) (n : Int) (w : World) :
    (convert src dst (.int j n)).run P w = .ok (.int k (k.wrap n)) w := by
  simp [convert, run_underlying hs, run_underlying hd, Conv.intToInt]

theorem mx_ok : ∀ {x : Value} {l : List Value} {v : Value}, kMx x l = some v → ∀ w : World, (l.foldlM Builtin.max2 x).run P w = .ok v w ∧ VRel P ρ v v ∧ VRel P ρ x x ∧ ∀ y ∈ l, ∃ k n, y = .int k n
  | x, [], v, hk, w => by
    cases x <;> simp [kMx] at hk
    subst hk
    exact ⟨by simp [List.foldlM], .int _ _, .int _ _, by simp⟩
  | x, y :: l, v, hk, w => by
    cases x <;> cases y <;> simp only [kMx] at hk <;> first
      | (cases hk; done)
      | (rename_i k a j b
         obtain ⟨h1, h2, h3, h4⟩ := mx_ok hk w
         refine ⟨?_, h2, .int _ _, ?_⟩
         · simp only [List.foldlM_cons, Sem.run_bind, Builtin.max2, Sem.run_pure, Result.andThen_ok]
           exact h1
         · intro y hy
           rcases List.mem_cons.1 hy with rfl | hy
           · exact ⟨_, _, rfl⟩
           · exact h4 y hy)
theorem mn_ok : ∀ {x : Value} {l : List Value} {v : Value}, kMn x l = some v → ∀ w : World, (l.foldlM Builtin.min2 x).run P w = .ok v w ∧ VRel P ρ v v ∧ VRel P ρ x x ∧ ∀ y ∈ l, ∃ k n, y = .int k n
  | x, [], v, hk, w => by
    cases x <;> simp [kMn] at hk
    subst hk
    exact ⟨by simp [List.foldlM], .int _ _, .int _ _, by simp⟩
  | x, y :: l, v, hk, w => by
    cases x <;> cases y <;> simp only [kMn] at hk <;> first
      | (cases hk; done)
      | (rename_i k a j b
         obtain ⟨h1, h2, h3, h4⟩ := mn_ok hk w
         refine ⟨?_, h2, .int _ _, ?_⟩
         · simp only [List.foldlM_cons, Sem.run_bind, Builtin.min2, Sem.run_pure, Result.andThen_ok]
           exact h1
         · intro y hy
           rcases List.mem_cons.1 hy with rfl | hy
           · exact ⟨_, _, rfl⟩
           · exact h4 y hy)

/- PARTS -/
theorem run_part_one {t : TypeId} {d : TypeDesc} (hd : P.underlying t = some d) (hna : isAggD d = false) (cs : Array Value) (off : Nat) (v : Value)
    (h : cs[off]? = some v) (w : World) : (part t cs off).run P w = .ok v w := by
  cases d <;> simp_all [isAggD, part, isAgg, run_underlying hd]

theorem agg_part {xs ys : Array Value} {off n : Nat} {l : List Value} (hs : xs.size = ys.size) (h : ∀ (i : Nat) x y, xs[i]? = some x → ys[i]? = some y → VRel P ρ x y)
    (ho : ∀ (i : Nat) x, xs[i]? = some x → oneC x = true) (hr : rd xs.toList off n = some l) : VRel P ρ (.agg l.toArray) (.agg (ys.extract off (off + n))) := by
  obtain ⟨h1, rfl⟩ := rd_some hr
  have e : ys.extract off (off + n) = ((ys.toList.drop off).take n).toArray := by
    apply Array.ext'
    simp [List.take_drop, Nat.add_comm]
  rw [e]
  exact agg_of (((VL.arr hs h).drop off).take n) (fun x hx => by
    have hx := List.mem_of_mem_drop (List.mem_of_mem_take hx)
    obtain ⟨i, hi⟩ := List.mem_iff_getElem?.1 hx
    exact ho i x (by simpa using hi))

theorem run_part_agg {t : TypeId} {d : TypeDesc} {i : TypeInfo} (hd : P.underlying t = some d) (ha : isAggD d = true) (hi : P.info? t = some i)
    (cs : Array Value) (off : Nat) (w : World) : (part t cs off).run P w = .ok (.agg (cs.extract off (off + i.size))) w := by
  cases d <;> simp_all [isAggD, part, isAgg, run_underlying hd, sizeOf, typeInfo]

theorem fld_ok {t : TypeId} {fs : Array Field} {f : Field} {n : Nat} {d : TypeDesc} (ht : P.underlying t = some (.struct fs)) (hf : fs[n]? = some f) (hd : P.underlying f.type = some d)
    (hna : isAggD d = false) {x' v : Value} {cs : Array Value} (hx : VRel P ρ (.agg cs) x') (hk : cs.toList[f.offset]? = some v) (w : World) :
    ∃ v', (Instr.field t x' n).run P w = .ok v' w ∧ VRel P ρ v v' := by
  cases hx with
  | agg hs h ho =>
    rename_i ys
    obtain ⟨y, hy, hv⟩ := (VL.arr hs h).get hk
    exact ⟨y, by simp [Instr.field, run_underlying ht, hf, asAgg, run_part_one hd hna ys f.offset y (by simpa using hy)], hv⟩

theorem fldn_ok {t : TypeId} {fs : Array Field} {f : Field} {n : Nat} {d : TypeDesc} {i : TypeInfo} (ht : P.underlying t = some (.struct fs)) (hf : fs[n]? = some f) (hd : P.underlying f.type = some d)
    (ha : isAggD d = true) (hi : P.info? f.type = some i) {x' : Value} {l : List Value} {cs : Array Value} (hx : VRel P ρ (.agg cs) x')
    (hk : rd cs.toList f.offset i.size = some l) (w : World) : ∃ v', (Instr.field t x' n).run P w = .ok v' w ∧ VRel P ρ (.agg l.toArray) v' := by
  cases hx with
  | agg hs h ho =>
    rename_i ys
    exact ⟨_, by simp [Instr.field, run_underlying ht, hf, asAgg, run_part_agg hd ha hi ys f.offset], agg_part hs h ho hk⟩

theorem ida_ok {t e : TypeId} {len : Nat} {d : TypeDesc} {i : TypeInfo} (ht : P.underlying t = some (.array len e)) (hd : P.underlying e = some d) (hi : P.info? e = some i) (h1 : i.size = 1)
    (hna : isAggD d = false) {x' v : Value} {cs : Array Value} {k : IntKind} {j : Int} (hx : VRel P ρ (.agg cs) x') (hj : 0 ≤ j ∧ j < len) (hk : cs.toList[j.toNat]? = some v) (w : World) :
    ∃ v', (Instr.index t x' (.int k j)).run P w = .ok v' w ∧ VRel P ρ v v' := by
  cases hx with
  | agg hs h ho =>
    rename_i ys
    obtain ⟨y, hy, hv⟩ := (VL.arr hs h).get hk
    exact ⟨y, by simp [Instr.index, asIntOf, run_underlying ht, hj, sizeOf, typeInfo, hi, h1, run_part_one hd hna ys j.toNat y (by simpa using hy)], hv⟩

theorem idan_ok {t e : TypeId} {len : Nat} {d : TypeDesc} {i : TypeInfo} (ht : P.underlying t = some (.array len e)) (hd : P.underlying e = some d) (hi : P.info? e = some i)
    (ha : isAggD d = true) {x' : Value} {l : List Value} {cs : Array Value} {k : IntKind} {j : Int} (hx : VRel P ρ (.agg cs) x') (hj : 0 ≤ j ∧ j < len)
    (hk : rd cs.toList (j.toNat * i.size) i.size = some l) (w : World) : ∃ v', (Instr.index t x' (.int k j)).run P w = .ok v' w ∧ VRel P ρ (.agg l.toArray) v' := by
  cases hx with
  | agg hs h ho =>
    rename_i ys
    exact ⟨_, by simp [Instr.index, asIntOf, run_underlying ht, hj, sizeOf, typeInfo, hi, run_part_agg hd ha hi ys (j.toNat * i.size)], agg_part hs h ho hk⟩

theorem idS_ok {t : TypeId} (ht : P.underlying t = some .string) (s : ByteArray) {k : IntKind} {j : Int} {b : UInt8} (hj : 0 ≤ j) (hk : s.data.toList[j.toNat]? = some b) (w : World) :
    (Instr.index t (.string s) (.int k j)).run P w = .ok (.int .u8 b.toNat) w := by
  have hs : s[j.toNat]? = some b := by
    have hlt : j.toNat < s.data.toList.length := (List.getElem?_eq_some_iff.1 hk).1
    have hlt' : j.toNat < s.size := by simpa using hlt
    have := (List.getElem?_eq_some_iff.1 hk).2
    rw [getElem?_pos s j.toNat hlt']
    congr 1
  simp [Instr.index, asIntOf, run_underlying ht, hj, hs]

theorem fad_ok {t : TypeId} {fs : Array Field} {f : Field} {n : Nat} {i : TypeInfo} (ht : P.underlying t = some (.struct fs)) (hf : fs[n]? = some f) (hi : P.info? f.type = some i) (h0 : i.size ≠ 0) {x' : Value} {a : Addr}
    (hx : VRel P ρ (.pointer (some a)) x') (w : World) : ∃ v', (Instr.fieldAt t x' n).run P w = .ok v' w ∧ VRel P ρ (.pointer (some (addOff a f.offset))) v' := by
  obtain ⟨L, hs, hL, rfl⟩ := hx.pointer_inv
  refine ⟨.pointer (some ⟨L.block, L.off + a.off + f.offset, none⟩), ?_, ?_⟩
  · simp [Instr.fieldAt, run_underlying ht, hf, Instr.sureAddr, fieldPlace, sizeOf, typeInfo, hi, h0, Addr.add_lit]
  · have := VRel.ptr (P := P) (off := a.off + f.offset) hL
    simpa [addOff, Nat.add_assoc] using this

theorem iad_ok {t e : TypeId} {i : TypeInfo} (ht : P.underlying t = some (.slice e)) (hi : P.info? e = some i) {x' : Value} {a : Addr} {n c : Nat} {k : IntKind} {j : Int} (hx : VRel P ρ (.slice (some a) n c) x') (hj : 0 ≤ j ∧ j < n)
    (w : World) : ∃ v', (Instr.indexAt t x' (.int k j)).run P w = .ok v' w ∧ VRel P ρ (.pointer (some (addOff a (j.toNat * i.size)))) v' := by
  cases hx with
  | sl hL hn hc hs =>
    rename_i b off c' L
    refine ⟨.pointer (some ⟨L.block, L.off + off + j.toNat * i.size, none⟩), ?_, ?_⟩
    · simp [Instr.indexAt, asIntOf, run_underlying ht, hj, sizeOf, typeInfo, hi, Addr.add_lit]
    · have := VRel.ptr (P := P) (off := off + j.toNat * i.size) hL
      simpa [addOff, Nat.add_assoc] using this
  | sl0 => omega

theorem iada_ok {t e : TypeId} {i : TypeInfo} {len : Nat} (ht : P.underlying t = some (.array len e)) (hi : P.info? e = some i) {x' : Value} {a : Addr} {k : IntKind} {j : Int} (hx : VRel P ρ (.pointer (some a)) x') (hj : 0 ≤ j ∧ j < len)
    (w : World) : ∃ v', (Instr.indexAt t x' (.int k j)).run P w = .ok v' w ∧ VRel P ρ (.pointer (some (addOff a (j.toNat * i.size)))) v' := by
  obtain ⟨L, hs, hL, rfl⟩ := hx.pointer_inv
  refine ⟨.pointer (some ⟨L.block, L.off + a.off + j.toNat * i.size, none⟩), ?_, ?_⟩
  · simp [Instr.indexAt, Instr.sureAddr, asIntOf, run_underlying ht, hj, sizeOf, typeInfo, hi, Addr.add_lit]
  · have := VRel.ptr (P := P) (off := a.off + j.toNat * i.size) hL
    simpa [addOff, Nat.add_assoc] using this

/- EQUALITY -/
def EqTS (P : Program) (t : TypeId) : EqS → Prop
  | .int => ∃ k, P.underlying t = some (.int k)
  | .str => P.underlying t = some .string
  | .bool => P.underlying t = some .bool

theorem EqTS.one {t : TypeId} {k : EqS} (h : EqTS P t k) : ∃ d, P.underlying t = some d ∧ isAggD d = false := by
  cases k
  · obtain ⟨k, h⟩ := h; exact ⟨_, h, rfl⟩
  · exact ⟨_, h, rfl⟩
  · exact ⟨_, h, rfl⟩

theorem kEq1_inv {k : EqS} {x y : Value} {b : Bool} (h : kEq1 k x y = some b) : (∀ x', VRel P ρ x x' → x' = x) ∧ (∀ y', VRel P ρ y y' → y' = y) := by
  unfold kEq1 at h
  split at h
  · exact ⟨fun x' hx => by cases hx; rfl, fun y' hy => by cases hy; rfl⟩
  · exact ⟨fun x' hx => by cases hx; rfl, fun y' hy => by cases hy; rfl⟩
  · exact ⟨fun x' hx => by cases hx; rfl, fun y' hy => by cases hy; rfl⟩
  · cases h

theorem eq1_ok {t : TypeId} {k : EqS} (ht : EqTS P t k) {x y : Value} {b : Bool} (h : kEq1 k x y = some b) (d : Nat) (w : World) : (Op.equalIn (d + 1) t x y).run P w = .ok b w := by
  unfold kEq1 at h
  split at h
  · cases h; exact run_equalIn_bool' w d t _ _ ht
  · obtain ⟨k', ht⟩ := ht
    split at h
    · rename_i hk; subst hk; cases h; exact run_equalIn_int w d t _ _ _ _ ht
    · cases h
  · cases h; exact run_equalIn_string w d t _ _ ht
  · cases h

/-- the fields of a struct of scalars -/
def FlatF (P : Program) : List Field → Nat → List EqS → Prop
  | [], _, [] => True
  | f :: fs, j, k :: ks => f.name ≠ "_" ∧ f.offset = j ∧ EqTS P f.type k ∧ FlatF P fs (j + 1) ks
  | _, _, _ => False

theorem eqF_ok (d : Nat) {xs ys xs' ys' : Array Value} (hxs : VL P ρ xs.toList xs'.toList) (hys : VL P ρ ys.toList ys'.toList) : ∀ (fs : List Field) (j : Nat) (ks : List EqS) (b : Bool), FlatF P fs j ks →
    kEqL ks (xs.toList.drop j) (ys.toList.drop j) = some b → ∀ w : World, (Op.eqFields (d + 1) xs' ys' fs).run P w = .ok b w
  | [], j, ks, b, hf, hk, w => by
    cases ks with
    | cons k ks => exact hf.elim
    | nil =>
      cases hx : xs.toList.drop j <;> cases hy : ys.toList.drop j <;> simp [hx, hy, kEqL] at hk
      subst hk
      simp [Op.eqFields]
  | f :: fs, j, ks, b, hf, hk, w => by
    cases ks with
    | nil => exact hf.elim
    | cons k ks =>
      obtain ⟨hn, ho, ht, hf⟩ := hf
      cases hx : xs.toList.drop j with
      | nil => simp [hx, kEqL] at hk
      | cons x xr =>
        cases hy : ys.toList.drop j with
        | nil => simp [hx, hy, kEqL] at hk
        | cons y yr =>
          simp only [hx, hy, kEqL] at hk
          have hxj : xs.toList[j]? = some x := by have := congrArg (·[0]?) hx; simpa using this
          have hyj : ys.toList[j]? = some y := by have := congrArg (·[0]?) hy; simpa using this
          have hxr : xr = xs.toList.drop (j + 1) := by have := congrArg List.tail hx; simpa using this.symm
          have hyr : yr = ys.toList.drop (j + 1) := by have := congrArg List.tail hy; simpa using this.symm
          cases h1 : kEq1 k x y with
          | none => simp [h1] at hk
          | some r =>
            obtain ⟨ex, ey⟩ := kEq1_inv (P := P) (ρ := ρ) h1
            obtain ⟨x', hx', hvx⟩ := hxs.get hxj
            obtain ⟨y', hy', hvy⟩ := hys.get hyj
            rw [ex x' hvx] at hx'
            rw [ey y' hvy] at hy'
            obtain ⟨dd, hd, hna⟩ := ht.one
            have p1 := run_part_one hd hna xs' j x (by simpa using hx') w
            have p2 := run_part_one hd hna ys' j y (by simpa using hy') w
            have e1 := eq1_ok ht h1 d w
            simp only [h1, Option.bind_some] at hk
            simp only [Op.eqFields, hn, ne_eq, not_false_eq_true, if_true, ho, Sem.run_bind, p1, p2, e1, Result.andThen_ok]
            cases r with
            | false =>
              simp only [Bool.false_eq_true, if_false] at hk
              split at hk
              · cases hk; simp
              · cases hk
            | true =>
              simp only [if_true] at hk
              rw [hxr, hyr] at hk
              have := eqF_ok d hxs hys fs (j + 1) ks b hf hk w
              simpa using this

def EqT (P : Program) (t : TypeId) : EqK → Prop
  | .s k => EqTS P t k
  | .ptr => ∃ e, P.underlying t = some (.pointer e)
  | .slice => ∃ e, P.underlying t = some (.slice e)
  | .map => ∃ k e, P.underlying t = some (.map k e)
  | .func => ∃ a b c, P.underlying t = some (.func a b c)
  | .ifc => ∃ a, P.underlying t = some (.interface a)
  | .agg ks => P.eqGuardType P.depth t = false ∧
      ((∃ fs, P.underlying t = some (.struct fs) ∧ P.stoodInHeld t = false ∧ FlatF P fs.toList 0 ks) ∨
       (∃ n e k i, P.underlying t = some (.array n e) ∧ P.info? e = some i ∧ i.size = 1 ∧ EqTS P e k ∧ ks = List.replicate n k))

theorem run_eqArr (d : Nat) {e : TypeId} {i : TypeInfo} {k : EqS} (hi : P.info? e = some i) (h1 : i.size = 1) (he : EqTS P e k) {xs ys xs' ys' : Array Value} (hxs : VL P ρ xs.toList xs'.toList) (hys : VL P ρ ys.toList ys'.toList) :
    ∀ (n j : Nat) (b : Bool), kEqL (List.replicate n k) (xs.toList.drop j) (ys.toList.drop j) = some b → ∀ w : World,
      (ForIn.forIn (m := Sem) (List.range' j n) ((none : Option Bool), ()) fun (i_1 : Nat) (r : Option Bool × Unit) => do
        let a ← part e xs' (i_1 * i.size)
        let c ← part e ys' (i_1 * i.size)
        let r1 ← Op.equalIn (d + 1) e a c
        if (!r1) = true then pure (ForInStep.done (some false, ())) else pure (ForInStep.yield (none, ()))).run P w = .ok (if b then none else some false, ()) w := by
  intro n
  induction n with
  | zero =>
    intro j b hk w
    simp only [List.replicate_zero] at hk
    cases hx : xs.toList.drop j <;> cases hy : ys.toList.drop j <;> simp [hx, hy, kEqL] at hk
    subst hk
    simp
  | succ n ih =>
    intro j b hk w
    cases hx : xs.toList.drop j with
    | nil => simp [hx, kEqL, List.replicate_succ] at hk
    | cons x xr =>
      cases hy : ys.toList.drop j with
      | nil => simp [hx, hy, kEqL, List.replicate_succ] at hk
      | cons y yr =>
        simp only [hx, hy, kEqL, List.replicate_succ] at hk
        have hxj : xs.toList[j]? = some x := by have := congrArg (·[0]?) hx; simpa using this
        have hyj : ys.toList[j]? = some y := by have := congrArg (·[0]?) hy; simpa using this
        have hxr : xr = xs.toList.drop (j + 1) := by have := congrArg List.tail hx; simpa using this.symm
        have hyr : yr = ys.toList.drop (j + 1) := by have := congrArg List.tail hy; simpa using this.symm
        cases hq : kEq1 k x y with
        | none => simp [hq] at hk
        | some r =>
          obtain ⟨ex, ey⟩ := kEq1_inv (P := P) (ρ := ρ) hq
          obtain ⟨x', hx', hvx⟩ := hxs.get hxj
          obtain ⟨y', hy', hvy⟩ := hys.get hyj
          rw [ex x' hvx] at hx'
          rw [ey y' hvy] at hy'
          obtain ⟨dd, hd, hna⟩ := he.one
          have p1 := run_part_one hd hna xs' (j * i.size) x (by rw [h1]; simpa using hx') w
          have p2 := run_part_one hd hna ys' (j * i.size) y (by rw [h1]; simpa using hy') w
          have e1 := eq1_ok he hq d w
          simp only [hq, Option.bind_some] at hk
          simp only [List.range'_succ, List.forIn_cons, Sem.run_bind, p1, p2, e1, Result.andThen_ok]
          cases r with
          | false =>
            simp only [Bool.false_eq_true, if_false] at hk
            split at hk
            · cases hk; simp
            · cases hk
          | true =>
            simp only [if_true] at hk
            rw [hxr, hyr] at hk
            simpa using ih (j + 1) b hk w

set_option maxHeartbeats 1000000 in
theorem eqv_in {t : TypeId} {kk : EqK} (ht : EqT P t kk) {x y x' y' : Value} {b : Bool} (hx : VRel P ρ x x') (hy : VRel P ρ y y') (hk : kEq kk x y = some b) (d : Nat) (w : World) :
    (Op.equalIn (d + 2) t x' y').run P w = .ok b w := by
  unfold kEq at hk
  split at hk
  · obtain ⟨e1, e2⟩ := kEq1_inv (P := P) (ρ := ρ) hk
    rw [e1 x' hx, e2 y' hy]
    exact eq1_ok ht hk (d + 1) w
  · obtain ⟨e, ht⟩ := ht
    cases hx; cases hk
    cases hy <;> (rw [Op.equalIn]; simp [run_underlying ht])
  · obtain ⟨e, ht⟩ := ht
    cases hx; cases hk; cases hy
    (rw [Op.equalIn]; simp [run_underlying ht])
  · obtain ⟨e, ht⟩ := ht
    cases hx; cases hk
    cases hy <;> (rw [Op.equalIn]; simp [run_underlying ht])
  · obtain ⟨e, ht⟩ := ht
    cases hk
    cases hx <;> cases hy <;> (rw [Op.equalIn]; simp [run_underlying ht])
  · obtain ⟨k, e, ht⟩ := ht
    cases hx; cases hk
    cases hy <;> (rw [Op.equalIn]; simp [run_underlying ht])
  · obtain ⟨k, e, ht⟩ := ht
    cases hk
    cases hx; cases hy
    (rw [Op.equalIn]; simp [run_underlying ht])
  · obtain ⟨a, b, c, ht⟩ := ht
    cases hx; cases hk; cases hy
    (rw [Op.equalIn]; simp [run_underlying ht])
  · obtain ⟨a, b, c, ht⟩ := ht
    cases hk; cases hx; cases hy
    (rw [Op.equalIn]; simp [run_underlying ht])
  · obtain ⟨a, ht⟩ := ht
    cases hx; cases hk; cases hy
    (rw [Op.equalIn]; simp [run_underlying ht])
  · obtain ⟨a, ht⟩ := ht
    cases hk; cases hx; cases hy
    (rw [Op.equalIn]; simp [run_underlying ht])
  · rename_i ks xs ys
    obtain ⟨hgt, hor⟩ := ht
    cases hx with
    | agg hs1 h1 ho1 =>
      rename_i xs'
      cases hy with
      | agg hs2 h2 ho2 =>
        rename_i ys'
        rcases hor with ⟨fs, htt, hst, hfl⟩ | ⟨n, e, k, i, htt, hi, hi1, hek, rfl⟩
        · have hff : P.fieldsOf t = fs := by simp [Program.fieldsOf, htt]
          rw [run_equalIn_struct w (d + 1) t xs' ys' (by rw [hff]; exact htt) hst, hff]
          exact eqF_ok d (VL.arr hs1 h1) (VL.arr hs2 h2) fs.toList 0 ks b hfl (by simpa using hk) w
        · have := run_eqArr d hi hi1 hek (VL.arr hs1 h1) (VL.arr hs2 h2) n 0 b (by simpa using hk) w
          have hsz : ∀ w : World, (sizeOf e).run P w = .ok i.size w := fun w => by simp [sizeOf, typeInfo, hi]
          rw [Op.equalIn]
          simp only [Sem.run_bind, run_underlying htt, Result.andThen_ok, hsz, Std.Legacy.Range.forIn_eq_forIn_range', Std.Legacy.Range.size, Nat.sub_zero, Nat.add_sub_cancel, Nat.div_one, this]
          cases b <;> simp
  · cases hk

end
end Go.Proofs.Ytlboioplemlneaa.K
