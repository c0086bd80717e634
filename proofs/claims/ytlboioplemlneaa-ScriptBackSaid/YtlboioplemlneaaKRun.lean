/- Steps, regions in the text's order, calls: what K's run tells of the model's. -/
import Derived.Test.YtlboioplemlneaaKComp2
import Derived.LoopN
set_option linter.unusedVariables false
set_option linter.unusedSimpArgs false
namespace Go.Proofs.Ytlboioplemlneaa.K
open Go Go.RowKit

theorem Env.get_set (e : Env) (i j : Nat) (v : Value) : (e.set i v).get j = if j = i then v else e.get j := by
  induction e generalizing i j with
  | nil =>
    induction i generalizing j with
    | zero => cases j <;> simp [Env.set, Env.get]
    | succ i ih =>
      cases j with
      | zero => simp [Env.set, Env.get]
      | succ j => simp [Env.set, Env.get, ih]
  | cons x e ih =>
    cases i with
    | zero => cases j <;> simp [Env.set, Env.get]
    | succ i =>
      cases j with
      | zero => simp [Env.set, Env.get]
      | succ j => simp [Env.set, Env.get, ih]

def dstOk (nt : Nat) : Option Nat → Bool
  | none => true
  | some d => decide (d < nt)
def gslot (ops : Array Oper) : Option (Nat × Bool) → Option (Option (Nat × Bool))
  | none => some none
  | some (j, w) => ((ops[j]?).bind (·.dst)).map fun s => some (s, w)
def opOk (op : Op) (k : KOp) : Bool :=
  match op with
  | .call _ => true
  | _ => !isCall k
def cStep (P : Program) (nt : Nat) (ops : Array Oper) (o : Oper) : Option KStep :=
  if dstOk nt o.dst then (gslot ops o.guard).bind fun g => (cOp P nt o.op).bind fun k => if opOk o.op k then some (.op o.dst g k) else none else none
def cSteps (P : Program) (nt : Nat) (ops : Array Oper) : List Oper → Option (List KStep)
  | [] => some []
  | o :: os => (cStep P nt ops o).bind fun s => (cSteps P nt ops os).map (s :: ·)

section
variable {P : Program} {B : Nat} {w0 : World}

/-- what a frame must be -/
def AOK (nt : Nat) (a : Act) : Prop := nt ≤ a.tmps.size ∧ a.defers = []

theorem put_ok {ρ : Rho} {e : Env} {a : Act} {nt : Nat} {dst : Option Nat} {v v' : Value} (he : ERel P ρ e a) (ha : AOK nt a) (hd : dstOk nt dst = true) (hv : VRel P ρ v v') :
    ERel P ρ (setO e dst v) (a.put dst v') ∧ AOK nt (a.put dst v') := by
  cases dst with
  | none => exact ⟨he, ha⟩
  | some d =>
    have hlt : d < a.tmps.size := by
      have h1 : d < nt := by simpa [dstOk] using hd
      exact Nat.lt_of_lt_of_le h1 ha.1
    refine ⟨fun n => ?_, by simpa [Act.put] using ha.1, ha.2⟩
    simp only [setO, Act.put, Env.get_set]
    by_cases hn : n = d
    · subst hn; simp [hlt, hv]
    · rw [if_neg hn]
      have : (a.tmps.setIfInBounds d v').getD n undef = a.tmps.getD n undef := by
        simp [Array.getElem?_setIfInBounds_ne (fun e => hn e.symm)]
      rw [this]; exact he n

theorem wants_ok {ρ : Rho} {e : Env} {a : Act} {ops : Array Oper} {o : Oper} {g : Option (Nat × Bool)} (he : ERel P ρ e a) (hg : gslot ops o.guard = some g) :
    wants e g = Region.wanted o (yielded ops a.tmps) := by
  unfold Region.wanted
  cases hgd : o.guard with
  | none => rw [hgd] at hg; simp [gslot] at hg; subst hg; rfl
  | some p =>
    obtain ⟨j, w⟩ := p
    rw [hgd] at hg
    simp only [gslot, Option.map_eq_some_iff] at hg
    obtain ⟨s, hs, rfl⟩ := hg
    simp only [wants, yielded, hs, Option.bind_some]
    have hv := he s
    rw [Array.getD_eq_getD_getElem?] at hv
    cases ht : a.tmps[s]? with
    | none =>
      rw [ht] at hv
      generalize e.get s = x at hv
      cases hv with
      | tuple => simp
    | some y =>
      rw [ht] at hv
      simp only [Option.getD_some] at hv
      generalize e.get s = x at hv
      cases hv <;> simp

/-- what is asked of the functions that are called -/
def CallOK (P : Program) (B : Nat) (w0 : World) (call : CallO) : Prop :=
  ∀ f args H v H', call f args H = some (v, H') → okFunc P f = true ∧ ∀ (ρ : Rho) (w : World) (cargs : List Value), HRel P B w0 ρ H w → VL P ρ args cargs →
    Calls P f cargs.toArray w fun e w' => ∃ ρ' cv, e = .returned cv ∧ ρ <+: ρ' ∧ VRel P ρ' v cv ∧ HRel P B w0 ρ' H' w'

/-- how a receiver is come to -/
def recvFits (P : Program) (t : TypeId) (ptr : Bool) : Recv → Bool
  | .as => match P.underlying t with
    | some (.pointer _) => ptr
    | some _ => !ptr
    | none => false
  | .ld => match P.underlying t with
    | some (.pointer el) => !ptr && (match P.underlying el with | some d => !isAggD d | none => false)
    | _ => false
  | .ldn n => match P.underlying t with
    | some (.pointer el) => !ptr && (match P.underlying el, P.info? el with | some d, some i => isAggD d && i.size == n | _, _ => false)
    | _ => false
def methOk (P : Program) (t : TypeId) (name : String) (f : FuncId) (r : Recv) : Bool :=
  match P.info? t with
  | some i => match i.methods.find? (·.name == name) with
    | some m => m.path.isEmpty && (match m.func with | some (f', ptr) => f' == f && recvFits P t ptr r | none => false)
    | none => false
  | none => false
def MethOK (P : Program) (S : Sys) : Prop := ∀ t name f r, S.M t name = some (f, r) → methOk P t name f r = true

theorem run_wrapchk (t : TypeId) (b : Addr) (s1 s2 : String) (w : World) : (Builtin.ssaWrapNilChk_ #[t] t #[.pointer (some b), strVal s1, strVal s2]).run P w = .ok (.pointer (some b)) w := rfl

theorem meth_run {t : TypeId} {name : String} {f : FuncId} {r : Recv} (hm : methOk P t name f r = true) {ρ : Rho} {H : Heap} {w : World} (h : HRel P B w0 ρ H w) {v v' x : Value} (hv : VRel P ρ v v') (hx : recvOf H v r = some x) :
    ∃ x', (method (P.types.size + Made.depth) t v' name).run P w = .ok (f, x') w ∧ VRel P ρ x x' := by
  unfold methOk at hm
  split at hm
  · rename_i i hi
    split at hm
    · rename_i m hmf
      simp only [Bool.and_eq_true] at hm
      obtain ⟨hpath, hm⟩ := hm
      split at hm
      · rename_i f' ptr hfn
        simp only [Bool.and_eq_true, beq_iff_eq] at hm
        obtain ⟨rfl, hr⟩ := hm
        obtain ⟨k, hk⟩ : ∃ k, P.types.size + Made.depth = k + 1 := ⟨P.types.size + Made.depth - 1, by have : 0 < Made.depth := by decide
                                                                                                      omega⟩
        rw [hk]
        have hp : m.path.toList = [] := by simpa using hpath
        have hrun : ∀ x', (receiverAt t (.val v') ptr (some ((name.splitOn ".").getLastD name))).run P w = .ok x' w → (method (k + 1) t v' name).run P w = .ok (f', x') w := by
          intro x' hx'
          simp only [method, Sem.run_bind, typeInfo, run_program, Result.andThen_ok, hi, Sem.run_pure, hmf, hp, follow, hfn, hpath, if_true, hx']
        cases r with
        | as =>
          simp only [recvOf, Option.some.injEq] at hx
          subst hx
          refine ⟨v', hrun _ ?_, hv⟩
          simp only [recvFits] at hr
          split at hr
          · rename_i el hu
            subst hr
            simp [receiverAt, run_underlying hu, Place.get]
          · rename_i d hnp hu
            have hptr : ptr = false := by simpa using hr
            subst hptr
            cases d <;> first
              | (exact (hnp _ hu).elim)
              | (exact (hnp _ rfl).elim)
              | simp [receiverAt, run_underlying hu, Place.get]
          · cases hr
        | ld =>
          simp only [recvFits] at hr
          split at hr
          · rename_i el hu
            simp only [Bool.and_eq_true, Bool.not_eq_true'] at hr
            obtain ⟨rfl, hr⟩ := hr
            split at hr
            · rename_i d hd
              have hna : isAggD d = false := by simpa using hr
              obtain ⟨b, x', rfl, h1, h2⟩ := ld_run hd hna h hv hx
              refine ⟨x', hrun _ ?_, h2⟩
              simp only [receiverAt, Sem.run_bind, run_underlying hu, Place.get, Sem.run_pure, Result.andThen_ok, run_wrapchk, asAddr, h1]
            · cases hr
          · cases hr
        | ldn n =>
          simp only [recvFits] at hr
          split at hr
          · rename_i el hu
            simp only [Bool.and_eq_true, Bool.not_eq_true'] at hr
            obtain ⟨rfl, hr⟩ := hr
            split at hr
            · rename_i d ii hd hii
              simp only [Bool.and_eq_true, beq_iff_eq] at hr
              obtain ⟨hag, rfl⟩ := hr
              obtain ⟨b, x', rfl, h1, h2⟩ := ldn_run hd hag hii h hv hx
              refine ⟨x', hrun _ ?_, h2⟩
              simp only [receiverAt, Sem.run_bind, run_underlying hu, Place.get, Sem.run_pure, Result.andThen_ok, run_wrapchk, asAddr, h1]
            · cases hr
          · cases hr
      · cases hm
    · cases hm
  · cases hm

theorem run_callFunc {f : FuncId} (hf : okFunc P f = true) (args : Array Value) (w : World) : (callFunc f args).run P w = .ok (.enter f args) w := by
  unfold okFunc at hf
  split at hf
  · rename_i fn hfn
    simp only [Bool.and_eq_true, bne_iff_ne, ne_eq] at hf
    have h2 : fn.body ≠ none := by
      intro hb; rw [hb] at hf; simp at hf
    simp [callFunc, run_program, hfn, hf.2, h2]
  · cases hf

/-- what an operation of the model does, told by K's -/
theorem exec_ok {S : Sys} {call : CallO} (hS : MethOK P S) (hcall : ∀ B w0, CallOK P B w0 call) {nt : Nat} {o : Oper} {k : KOp} {e : Env} {a : Act} {ρ : Rho} {H H' : Heap} {w : World} {v : Value}
    (he : ERel P ρ e a) (h : HRel P B w0 ρ H w) (hc : cOp P nt o.op = some k) (hoc : opOk o.op k = true) (hk : kExec S call k e H = some (v, H')) {next : Act → World → Prop} {Q : Exit → Act → World → Prop}
    (hn : ∀ ρ' v' w', ρ <+: ρ' → VRel P ρ' v v' → HRel P B w0 ρ' H' w' → next (a.put o.dst v') w') : o.wp P a w next Q := by
  have enter : ∀ (f : FuncId) (args : List Value) (cargs : Array Value), VL P ρ args cargs.toList → call f args H = some (v, H') → (execOp a.eval o).run P w = (callFunc f cargs).run P w → o.wp P a w next Q := by
    intro f args cargs hv hcl hrun
    obtain ⟨hf, hC⟩ := hcall B w0 f args H v H' hcl
    unfold Oper.wp
    rw [hrun, run_callFunc hf, Oper.upon_enter]
    have := hC ρ w cargs.toList h hv
    rw [Array.toArray_toList] at this
    refine this.mono ?_
    rintro e' w' ⟨ρ', cv, rfl, hp, hvv, hH⟩
    exact hn ρ' cv w' hp hvv hH
  cases hcl : isCall k with
  | false =>
    have hk' : kop k e H = some (v, H') := by
      unfold kExec at hk
      split at hk
      · cases hcl
      · cases hcl
      · cases hcl
      · cases hcl
      · exact hk
    obtain ⟨ρ', r, w', hr, hp, hH, hv⟩ := op_ok he h hc hcl hk'
    unfold Oper.wp
    rw [hr]
    rcases hv with ⟨v', rfl, hv⟩ | ⟨rfl, rfl⟩
    · exact hn ρ' v' w' hp hv hH
    · exact hn ρ' undef w' hp VRel.undef hH
  | true =>
    replace hc : cOp0 P nt o.op = some k := by
      rcases cOp_some hc with h | rfl
      · exact h
      · cases hcl
    obtain ⟨dst, op, type, pos, after, guard⟩ := o
    simp only at hc hn enter ⊢
    simp only at hoc
    cases op
    case call c =>
      simp only [cOp0, cCall] at hc
      split at hc
      · exfalso
        unfold cBuiltin at hc
        split at hc
        · simp only [Option.bind_eq_some_iff] at hc
          obtain ⟨d, hd, y, hy, hc⟩ := hc
          cases d <;> simp at hc <;> subst hc <;> cases hcl
        · simp only [Option.bind_eq_some_iff] at hc
          obtain ⟨d, hd, hc⟩ := hc
          cases d <;> simp only at hc <;> try cases hc
          simp only [Option.bind_eq_some_iff] at hc
          obtain ⟨_, _, _, _, _, _, _, _, d2, hd2, hc⟩ := hc
          cases d2 <;> simp only at hc <;> try cases hc
          · split at hc <;> cases hc; cases hcl
          · cases hcl
        · simp only [Option.bind_eq_some_iff, Option.map_eq_some_iff] at hc
          obtain ⟨_, _, _, _, rfl⟩ := hc; cases hcl
        · simp only [Option.bind_eq_some_iff, Option.map_eq_some_iff] at hc
          obtain ⟨_, _, _, _, rfl⟩ := hc; cases hcl
        · simp only [Option.bind_eq_some_iff] at hc
          obtain ⟨d, hd, hc⟩ := hc
          cases d <;> simp only at hc <;> try cases hc
          simp only [Option.bind_eq_some_iff, Option.map_eq_some_iff] at hc
          obtain ⟨_, _, _, _, _, _, rfl⟩ := hc; cases hcl
        · simp only [Option.bind_eq_some_iff, Option.map_eq_some_iff] at hc
          obtain ⟨_, _, _, _, _, _, rfl⟩ := hc; cases hcl
        · cases hc
      · rename_i f hf
        split at hc
        · simp only [Option.map_eq_some_iff] at hc
          obtain ⟨args, hargs, rfl⟩ := hc
          simp only [kExec] at hk
          have := opds_ok he hargs
          refine enter f (args.map e.ev) (c.args.map a.eval) (by simpa using this) hk ?_
          simp [execOp, resolve, hf, Act.eval, Deferred.ofValue, invoke]
        · cases hc
      · rename_i x hx hf
        simp only [Option.bind_eq_some_iff, Option.map_eq_some_iff] at hc
        obtain ⟨y, hy, args, hargs, rfl⟩ := hc
        simp only [kExec] at hk
        split at hk
        · rename_i f first cap hev
          have hv := opd_ok he hy
          rw [hev] at hv
          have hq : ∃ f1 c1, a.eval x = .func (.func f) f1 c1 ∧ VL P ρ first.toList f1.toList ∧ VL P ρ cap.toList c1.toList := by
            generalize a.eval x = q at hv
            cases hv with
            | func _ h1 h2 h3 h4 => exact ⟨_, _, rfl, VL.arr h1 h2, VL.arr h3 h4⟩
          obtain ⟨f1, c1, hq, hv1, hv2⟩ := hq
          have := opds_ok he hargs
          refine enter f (first.toList ++ args.map e.ev ++ cap.toList) (f1 ++ c.args.map a.eval ++ c1) (by simpa using (hv1.append this).append hv2) hk ?_
          simp [execOp, resolve, hf, hq, Deferred.ofValue, invoke]
        · cases hk
      · rename_i r name hf
        simp only [Option.bind_eq_some_iff, Option.map_eq_some_iff] at hc
        obtain ⟨y, hy, args, hargs, rfl⟩ := hc
        simp only [kExec] at hk
        split at hk
        · rename_i t u hev
          simp only [Option.bind_eq_some_iff] at hk
          obtain ⟨⟨f, rk⟩, hm, x, hx, hk⟩ := hk
          have hv := opd_ok he hy
          rw [hev] at hv
          have hq : ∃ u', a.eval r = .iface t u' ∧ VRel P ρ u u' := by
            generalize a.eval r = q at hv
            cases hv with
            | iface _ h1 => exact ⟨_, rfl, h1⟩
          obtain ⟨u', hq, hu⟩ := hq
          obtain ⟨x', hx', hxv⟩ := meth_run (hS t name f rk hm) h hu hx
          have := opds_ok he hargs
          refine enter f (x :: args.map e.ev) (#[x'] ++ c.args.map a.eval) (by simpa using VL.cons hxv this) hk ?_
          have h0 : (#[Value.iface t u'] ++ c.args.map a.eval)[0]? = some (.iface t u') := by simp [Array.getElem?_append]
          have h1 : (c.args.map a.eval).extract 0 c.args.size = c.args.map a.eval := by
            have := Array.extract_size (xs := c.args.map a.eval)
            rw [Array.size_map] at this; exact this
          simp [execOp, resolve, hf, hq, invoke, callMethod, run_program, h0, hx', h1]
        · cases hk
    all_goals
      exfalso
      simp [opOk, hcl] at hoc

/-- numbers, bools and texts are the model's as they stand -/
theorem gnd1_eq {ρ : Rho} {x y : Value} (h : gnd1 x = true) (hv : VRel P ρ x y) : y = x := by
  cases hv <;> first
    | rfl
    | (simp [gnd1] at h; done)
theorem gnd1_rel {ρ : Rho} {x : Value} (h : gnd1 x = true) : VRel P ρ x x ∧ oneC x = true := by
  cases x <;> first
    | exact ⟨.bool _, rfl⟩
    | exact ⟨.int _ _, rfl⟩
    | exact ⟨.string _, rfl⟩
    | (simp [gnd1] at h; done)
theorem gndV_eq {ρ : Rho} {x y : Value} (h : gndV x = true) (hv : VRel P ρ x y) : y = x := by
  have arr : ∀ {xs ys : Array Value}, xs.toList.all gnd1 = true → xs.size = ys.size → (∀ (i : Nat) a b, xs[i]? = some a → ys[i]? = some b → VRel P ρ a b) → ys = xs := by
    intro xs ys ha hs hh
    rw [List.all_eq_true] at ha
    apply Array.ext hs.symm
    intro i h1 h2
    exact gnd1_eq (ha xs[i] (by simp)) (hh i _ _ (Array.getElem?_eq_getElem h2) (Array.getElem?_eq_getElem h1))
  cases hv with
  | agg hs hh ho => rw [arr h hs hh]
  | tuple hs hh => rw [arr h hs hh]
  | bool => rfl
  | int => rfl
  | string => rfl
  | _ => simp [gndV, gnd1] at h
theorem gndV_rel {ρ : Rho} {x : Value} (h : gndV x = true) : VRel P ρ x x := by
  have arr : ∀ {xs : Array Value}, xs.toList.all gnd1 = true → ∀ (i : Nat) a, xs[i]? = some a → VRel P ρ a a ∧ oneC a = true := by
    intro xs ha i a hi
    rw [List.all_eq_true] at ha
    exact gnd1_rel (ha a (by have := Array.mem_of_getElem? hi; simpa using this))
  cases x with
  | agg xs => exact .agg rfl (fun i a b ha hb => by rw [ha] at hb; cases hb; exact (arr h i a ha).1) (fun i a ha => (arr h i a ha).2)
  | tuple xs => exact .tuple rfl (fun i a b ha hb => by rw [ha] at hb; cases hb; exact (arr h i a ha).1)
  | bool b => exact .bool _
  | int k n => exact .int _ _
  | string s => exact .string _
  | _ => simp [gndV, gnd1] at h
theorem HRel.nil0 (W : World) : HRel P W.heap.size W [] [] W :=
  ⟨Below.refl _ _, Nat.le_refl _, rfl, fun b L h => by simp at h, fun b L h => by simp at h, fun b b' L L' h => by simp at h⟩
theorem call_shape {nt : Nat} {op : Op} {f : FuncId} {args : List Opd} (hc : cOp P nt op = some (.call f args)) (hoc : opOk op (.call f args) = true) : ∃ c : Call, op = .call c ∧ c.callee = .value (.func f) ∧ cOpds nt c.args.toList = some args := by
  replace hc : cOp0 P nt op = some (.call f args) := by
    rcases cOp_some hc with h | h
    · exact h
    · cases h
  cases op
  case call c =>
    refine ⟨c, rfl, ?_⟩
    simp only [cOp0, cCall] at hc
    split at hc
    · exfalso
      unfold cBuiltin at hc
      split at hc
      · simp only [Option.bind_eq_some_iff] at hc
        obtain ⟨d, hd, y, hy, hc⟩ := hc
        cases d <;> simp at hc
      · simp only [Option.bind_eq_some_iff] at hc
        obtain ⟨d, hd, hc⟩ := hc
        cases d <;> simp only at hc <;> try cases hc
        simp only [Option.bind_eq_some_iff] at hc
        obtain ⟨_, _, _, _, _, _, _, _, d2, hd2, hc⟩ := hc
        cases d2 <;> simp only at hc <;> try cases hc
        · split at hc <;> cases hc
      · simp only [Option.bind_eq_some_iff, Option.map_eq_some_iff] at hc
        obtain ⟨_, _, _, _, hc⟩ := hc; cases hc
      · simp only [Option.bind_eq_some_iff, Option.map_eq_some_iff] at hc
        obtain ⟨_, _, _, _, hc⟩ := hc; cases hc
      · simp only [Option.bind_eq_some_iff] at hc
        obtain ⟨d, hd, hc⟩ := hc
        cases d <;> simp only at hc <;> try cases hc
        simp only [Option.bind_eq_some_iff, Option.map_eq_some_iff] at hc
        obtain ⟨_, _, _, _, _, _, hc⟩ := hc; cases hc
      · simp only [Option.bind_eq_some_iff, Option.map_eq_some_iff] at hc
        obtain ⟨_, _, _, _, _, _, hc⟩ := hc; cases hc
      · cases hc
    · rename_i g hg
      split at hc
      · simp only [Option.map_eq_some_iff] at hc
        obtain ⟨as, has, hc⟩ := hc
        cases hc
        exact ⟨hg, has⟩
      · cases hc
    · simp only [Option.bind_eq_some_iff, Option.map_eq_some_iff] at hc
      obtain ⟨_, _, _, _, hc⟩ := hc; cases hc
    · simp only [Option.bind_eq_some_iff, Option.map_eq_some_iff] at hc
      obtain ⟨_, _, _, _, hc⟩ := hc; cases hc
  all_goals
    exfalso
    simp [opOk, isCall] at hoc

/-- an operation, or the same call with nothing of the memory in sight -/
def AsP (k k' : KOp) : Prop := k' = k ∨ ∃ f args, k = .call f args ∧ k' = .callp f args
theorem exec_okp {S : Sys} {call : CallO} (hS : MethOK P S) (hcall : ∀ B w0, CallOK P B w0 call) {nt : Nat} {o : Oper} {k k' : KOp} {e : Env} {a : Act} {ρ : Rho} {H H' : Heap} {w : World} {v : Value}
    (he : ERel P ρ e a) (h : HRel P B w0 ρ H w) (hc : cOp P nt o.op = some k) (hoc : opOk o.op k = true) (hp : AsP k k') (hk : kExec S call k' e H = some (v, H')) {next : Act → World → Prop} {Q : Exit → Act → World → Prop}
    (hn : ∀ ρ' v' w', ρ <+: ρ' → VRel P ρ' v v' → HRel P B w0 ρ' H' w' → next (a.put o.dst v') w') : o.wp P a w next Q := by
  rcases hp with rfl | ⟨f, args, rfl, rfl⟩
  · exact exec_ok hS hcall he h hc hoc hk hn
  obtain ⟨c, hop, hf, hargs⟩ := call_shape hc hoc
  simp only [kExec] at hk
  split at hk
  case isFalse => cases hk
  rename_i hg
  simp only [Option.bind_eq_some_iff] at hk
  obtain ⟨⟨v2, Hx⟩, hcl, hk⟩ := hk
  split at hk
  case isFalse => cases hk
  rename_i hgv
  simp only [Option.some.injEq, Prod.mk.injEq] at hk
  obtain ⟨rfl, rfl⟩ := hk
  have hvl := opds_ok he hargs
  have hvl0 : VL P [] (args.map e.ev) (c.args.toList.map a.eval) := by
    rw [List.all_eq_true] at hg
    refine ⟨hvl.1, fun i x y hx hy => ?_⟩
    have hgx := hg x (List.mem_of_getElem? hx)
    have := gndV_eq hgx (hvl.2 i x y hx hy)
    rw [this]; exact gndV_rel hgx
  obtain ⟨hfo, hC⟩ := hcall w.heap.size w f _ [] v2 Hx hcl
  have hrun : (execOp a.eval o).run P w = (callFunc f (c.args.map a.eval)).run P w := by
    obtain ⟨dst, op, type, pos, after, guard⟩ := o
    simp only at hop
    subst hop
    simp [execOp, resolve, hf, Act.eval, Deferred.ofValue, invoke]
  unfold Oper.wp
  rw [hrun, run_callFunc hfo, Oper.upon_enter]
  have := hC [] w (c.args.toList.map a.eval) (HRel.nil0 w) hvl0
  have e1 : (c.args.toList.map a.eval).toArray = c.args.map a.eval := by
    apply Array.ext'
    rw [Array.toList_map]
  rw [e1] at this
  refine this.mono ?_
  rintro e' w' ⟨ρ', cv, rfl, hpp, hvv, hH⟩
  have := gndV_eq hgv hvv
  subst this
  exact hn ρ cv w' (List.prefix_refl _) (gndV_rel hgv) (h.world (hH.below.mono h.base) (fun i hi => hH.below.block i hi))

theorem step_some {nt : Nat} {ops : Array Oper} {o : Oper} {s : KStep} (h : cStep P nt ops o = some s) :
    ∃ g k, s = .op o.dst g k ∧ dstOk nt o.dst = true ∧ gslot ops o.guard = some g ∧ cOp P nt o.op = some k ∧ opOk o.op k = true := by
  unfold cStep at h
  split at h
  · rename_i hd
    simp only [Option.bind_eq_some_iff] at h
    obtain ⟨g, hg, k, hk, h⟩ := h
    split at h
    · rename_i ho; cases h; exact ⟨g, k, rfl, hd, hg, hk, ho⟩
    · cases h
  · cases h

/-- one step, whatever comes behind -/
theorem one_ok {S : Sys} {call : CallO} (hS : MethOK P S) (hcall : ∀ B w0, CallOK P B w0 call) {nt : Nat} {ops : Array Oper} {i : Nat} {o : Oper} {g : Option (Nat × Bool)} {k k' : KOp} (ho : ops[i]? = some o)
    (hd : dstOk nt o.dst = true) (hg : gslot ops o.guard = some g) (hc : cOp P nt o.op = some k) (hoc : opOk o.op k = true) (hp : AsP k k') {e e' : Env} {a : Act} {ρ : Rho} {H H' : Heap} {w : World}
    (he : ERel P ρ e a) (h : HRel P B w0 ρ H w) (ha : AOK nt a) (hk : kStep S call (.op o.dst g k') e H = some (e', H')) {K : Act → World → Prop} {Q : Exit → Act → World → Prop}
    (hn : ∀ ρ' a' w', ρ <+: ρ' → ERel P ρ' e' a' → HRel P B w0 ρ' H' w' → AOK nt a' → K a' w') : wpOp P ops Q i K a w := by
  unfold wpOp
  simp only [ho]
  simp only [kStep] at hk
  rw [← wants_ok he hg]
  split
  · rename_i hw
    rw [if_pos hw] at hk
    simp only [Option.map_eq_some_iff, Prod.mk.injEq] at hk
    obtain ⟨⟨v, H2⟩, hx, rfl, rfl⟩ := hk
    refine .inl (exec_okp hS hcall he h hc hoc hp hx ?_)
    intro ρ' v' w' hp hv hH
    obtain ⟨h1, h2⟩ := put_ok (he.mono hp) ha hd hv
    exact hn ρ' _ w' hp h1 hH h2
  · rename_i hw
    rw [if_neg hw] at hk
    cases hk
    obtain ⟨h1, h2⟩ := put_ok he ha hd VRel.undef
    exact hn ρ _ w (List.prefix_refl _) h1 h h2

theorem wpOps_congr {ops : Array Oper} {Q : Exit → Act → World → Prop} (i : Nat) (rest : List Nat) (a : Act) (w : World) : wpOps P ops Q (i :: rest) a w = wpOp P ops Q i (wpOps P ops Q rest) a w := wpOps_cons i rest a w

theorem steps_ok {S : Sys} {call : CallO} (hS : MethOK P S) (hcall : ∀ B w0, CallOK P B w0 call) {nt : Nat} {ops : Array Oper} {Q : Exit → Act → World → Prop} : ∀ (os : List Oper) (i : Nat) (ks : List KStep) (e e' : Env) (H H' : Heap) (ρ : Rho) (a : Act) (w : World),
    ops.toList.drop i = os → cSteps P nt ops os = some ks → kSteps S call ks e H = some (e', H') → ERel P ρ e a → HRel P B w0 ρ H w → AOK nt a →
    (∀ ρ' a' w', ρ <+: ρ' → ERel P ρ' e' a' → HRel P B w0 ρ' H' w' → AOK nt a' → Q .normal a' w') → wpOps P ops Q (List.range' i os.length) a w
  | [], i, ks, e, e', H, H', ρ, a, w, hdrop, hc, hk, he, h, ha, hQ => by
    simp [cSteps] at hc; subst hc
    simp [kSteps] at hk
    obtain ⟨rfl, rfl⟩ := hk
    exact hQ ρ a w (List.prefix_refl _) he h ha
  | o :: os, i, ks, e, e', H, H', ρ, a, w, hdrop, hc, hk, he, h, ha, hQ => by
    simp only [cSteps, Option.bind_eq_some_iff, Option.map_eq_some_iff] at hc
    obtain ⟨s, hs, l, hl, rfl⟩ := hc
    obtain ⟨g, k, rfl, hd, hg, hc, hoc⟩ := step_some hs
    simp only [kSteps, Option.bind_eq_some_iff] at hk
    obtain ⟨⟨e1, H1⟩, h1, hk⟩ := hk
    have ho : ops[i]? = some o := by have := congrArg (·[0]?) hdrop; simpa using this
    have hdr : ops.toList.drop (i + 1) = os := by have := congrArg List.tail hdrop; simpa using this
    simp only [List.length_cons, List.range'_succ]
    rw [wpOps_cons]
    refine one_ok hS hcall ho hd hg hc hoc (.inl rfl) he h ha h1 ?_
    intro ρ1 a1 w1 hp1 he1 hH1 ha1
    exact steps_ok hS hcall os (i + 1) l e1 e' H1 H' ρ1 a1 w1 hdr hl hk he1 hH1 ha1 (fun ρ' a' w' hp' => hQ ρ' a' w' (hp1.trans hp'))

end
end Go.Proofs.Ytlboioplemlneaa.K
