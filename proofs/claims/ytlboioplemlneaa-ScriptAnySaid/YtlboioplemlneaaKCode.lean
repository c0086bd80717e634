/- Code and functions: what K's run of a function tells is what a call of the model's function comes to. -/
import Derived.Test.YtlboioplemlneaaKDraw3
set_option linter.unusedVariables false
set_option linter.unusedSimpArgs false
namespace Go.Proofs.Ytlboioplemlneaa.K
open Go Go.RowKit

def cCode (P : Program) (nt : Nat) : Code → Option KCode
  | .skip => some .skip
  | .label _ => some .skip
  | .region _ ops draw => some (((if draw then cDraw P nt ops else cSteps P nt ops ops.toList).map .reg).getD .nev)
  | .seq a b => (cCode P nt a).bind fun x => (cCode P nt b).map fun y => .seq x y
  | .cond c a b => (cOpd nt c).bind fun o => (cCode P nt a).bind fun x => (cCode P nt b).map fun y => .cond o x y
  | .block id c => (cCode P nt c).map (.block id)
  | .loop c => (cCode P nt c).map .loop
  | .exit id => some (.exit id)
  | .ret => some .ret
  | _ => some .nev

def cRes1 (P : Program) : ResultVar → Option KRes
  | .tmp t => some (.t t)
  | .cell a t => (P.underlying t).bind fun d => (P.info? t).map fun i => if isAggD d then .cn a i.size else .c1 a
def cResL (P : Program) : List ResultVar → Option (List KRes)
  | [] => some []
  | r :: rs => (cRes1 P r).bind fun x => (cResL P rs).map (x :: ·)
def cFunc (P : Program) (fn : Func) : Option KFunc :=
  fn.body.bind fun c => (cCode P fn.ntmps c).bind fun k => (cResL P fn.results.toList).map fun r => ⟨fn.ntmps, k, r⟩

def exitOf : KExit → Exit
  | .normal => .normal
  | .exit id => .exit id
  | .ret => .ret

section
variable {P : Program} {B : Nat} {w0 : World}

def QOK (P : Program) (B : Nat) (w0 : World) (nt : Nat) (ρ : Rho) (s : KSt) (Q : Exit → Act → World → Prop) : Prop :=
  ∀ ρ' a' w', ρ <+: ρ' → ERel P ρ' s.e a' → HRel P B w0 ρ' s.H w' → AOK nt a' → Q (exitOf s.x) a' w'

theorem QOK.mono {nt : Nat} {ρ ρ' : Rho} {s : KSt} {Q : Exit → Act → World → Prop} (h : QOK P B w0 nt ρ s Q) (hp : ρ <+: ρ') : QOK P B w0 nt ρ' s Q := fun ρ2 a w hp2 => h ρ2 a w (hp.trans hp2)

theorem code_ok {S : Sys} {call : CallO} (hS : MethOK P S) (hcall : ∀ B w0, CallOK P B w0 call) (hm : P.follows .mixedOrders = true) {nt : Nat} (n : Nat) : ∀ (c : Code) (k : KCode), cCode P nt c = some k → ∀ (e : Env) (H : Heap) (s : KSt), evCode S call n k e H = some s →
    ∀ (ρ : Rho) (a : Act) (w : World) (Q : Exit → Act → World → Prop), ERel P ρ e a → HRel P B w0 ρ H w → AOK nt a → QOK P B w0 nt ρ s Q → c.wp P Q a w := by
  intro c
  induction c with
  | skip =>
    intro k hc e H s hk ρ a w Q hE hR ha hQ
    cases hc
    simp only [evCode, Option.some.injEq] at hk; subst hk
    exact wp_skip (hQ ρ a w (List.prefix_refl _) hE hR ha)
  | label l =>
    intro k hc e H s hk ρ a w Q hE hR ha hQ
    cases hc
    simp only [evCode, Option.some.injEq] at hk; subst hk
    exact wp_label (hQ ρ a w (List.prefix_refl _) hE hR ha)
  | exit id =>
    intro k hc e H s hk ρ a w Q hE hR ha hQ
    cases hc
    simp only [evCode, Option.some.injEq] at hk; subst hk
    exact wp_exit (hQ ρ a w (List.prefix_refl _) hE hR ha)
  | ret =>
    intro k hc e H s hk ρ a w Q hE hR ha hQ
    cases hc
    simp only [evCode, Option.some.injEq] at hk; subst hk
    exact wp_ret (hQ ρ a w (List.prefix_refl _) hE hR ha)
  | region id ops draw =>
    intro k hc e H s hk ρ a w Q hE hR ha hQ
    cases draw with
    | true =>
      cases hd : cDraw P nt ops with
      | none =>
        simp only [cCode, if_true, hd, Option.map_none, Option.getD_none, Option.some.injEq] at hc
        subst hc
        simp [evCode] at hk
      | some steps =>
        simp only [cCode, if_true, hd, Option.map_some, Option.getD_some, Option.some.injEq] at hc
        subst hc
        simp only [evCode, Option.map_eq_some_iff] at hk
        obtain ⟨⟨e', H'⟩, hk, rfl⟩ := hk
        exact draw_ok hS hcall hm hd hk hE hR ha hQ
    | false =>
      cases hd : cSteps P nt ops ops.toList with
      | none =>
        simp only [cCode, Bool.false_eq_true, if_false, hd, Option.map_none, Option.getD_none, Option.some.injEq] at hc
        subst hc
        simp [evCode] at hk
      | some steps =>
        simp only [cCode, Bool.false_eq_true, if_false, hd, Option.map_some, Option.getD_some, Option.some.injEq] at hc
        subst hc
        simp only [evCode, Option.map_eq_some_iff] at hk
        obtain ⟨⟨e', H'⟩, hk, rfl⟩ := hk
        refine wp_region ?_
        have := steps_ok hS hcall (Q := Q) ops.toList 0 steps e e' H H' ρ a w rfl hd hk hE hR ha hQ
        rw [List.range_eq_range']
        simpa using this
  | seq x y ihx ihy =>
    intro k hc e H s hk ρ a w Q hE hR ha hQ
    simp only [cCode, Option.bind_eq_some_iff, Option.map_eq_some_iff] at hc
    obtain ⟨kx, hx, ky, hy, rfl⟩ := hc
    simp only [evCode, Option.bind_eq_some_iff] at hk
    obtain ⟨s1, h1, hk⟩ := hk
    refine wp_seq (ihx kx hx e H s1 h1 ρ a w _ hE hR ha ?_)
    intro ρ1 a1 w1 hp1 hE1 hR1 ha1
    cases hs : s1.x with
    | normal =>
      rw [hs] at hk
      exact ihy ky hy s1.e s1.H s hk ρ1 a1 w1 Q hE1 hR1 ha1 (hQ.mono hp1)
    | exit id => rw [hs] at hk; simp only [Option.some.injEq] at hk; subst hk; have := hQ ρ1 a1 w1 hp1 hE1 hR1 ha1; rw [hs] at this; exact this
    | ret => rw [hs] at hk; simp only [Option.some.injEq] at hk; subst hk; have := hQ ρ1 a1 w1 hp1 hE1 hR1 ha1; rw [hs] at this; exact this
  | cond o x y ihx ihy =>
    intro k hc e H s hk ρ a w Q hE hR ha hQ
    simp only [cCode, Option.bind_eq_some_iff, Option.map_eq_some_iff] at hc
    obtain ⟨ko, ho, kx, hx, ky, hy, rfl⟩ := hc
    have hv := opd_ok hE ho
    simp only [evCode] at hk
    split at hk
    · rename_i hev
      rw [hev] at hv
      exact wp_cond_true hv.bool_inv (ihx kx hx e H s hk ρ a w Q hE hR ha hQ)
    · rename_i hev
      rw [hev] at hv
      exact wp_cond_false hv.bool_inv (ihy ky hy e H s hk ρ a w Q hE hR ha hQ)
    · cases hk
  | block id x ih =>
    intro k hc e H s hk ρ a w Q hE hR ha hQ
    simp only [cCode, Option.map_eq_some_iff] at hc
    obtain ⟨kx, hx, rfl⟩ := hc
    simp only [evCode, Option.map_eq_some_iff] at hk
    obtain ⟨s1, h1, rfl⟩ := hk
    refine wp_block (ih kx hx e H s1 h1 ρ a w _ hE hR ha ?_)
    intro ρ1 a1 w1 hp1 hE1 hR1 ha1
    by_cases hx : s1.x = .exit id
    · simp only [if_pos hx] at hQ
      rw [hx]
      simp only [exitOf, Exit.inBlock, if_true]
      exact hQ ρ1 a1 w1 hp1 hE1 hR1 ha1
    · simp only [if_neg hx] at hQ
      have hq := hQ ρ1 a1 w1 hp1 hE1 hR1 ha1
      cases hs : s1.x with
      | normal => rw [hs] at hq; exact hq
      | ret => rw [hs] at hq; exact hq
      | exit j =>
        rw [hs] at hq
        simp only [exitOf, Exit.inBlock] at hq ⊢
        have hj : j ≠ id := fun e => hx (by rw [hs, e])
        rw [if_neg hj]; exact hq
  | loop x ih =>
    intro k hc e H s hk ρ a w Q hE hR ha hQ
    simp only [cCode, Option.map_eq_some_iff] at hc
    obtain ⟨kx, hx, rfl⟩ := hc
    simp only [evCode] at hk
    have key : ∀ (m : Nat) (e : Env) (H : Heap) (ρ : Rho) (a : Act) (w : World), evLoop (fun e H => evCode S call n kx e H) m e H = some s → ERel P ρ e a → HRel P B w0 ρ H w → AOK nt a → QOK P B w0 nt ρ s Q → Code.rounds P x Q m a w := by
      intro m
      induction m with
      | zero => intro e H ρ a w h; simp [evLoop] at h
      | succ m ihm =>
        intro e H ρ a w h hE hR ha hQ
        simp only [evLoop, Option.bind_eq_some_iff] at h
        obtain ⟨s1, h1, h⟩ := h
        rw [rounds_succ]
        refine ih kx hx e H s1 h1 ρ a w _ hE hR ha ?_
        intro ρ1 a1 w1 hp1 hE1 hR1 ha1
        cases hs : s1.x with
        | normal => rw [hs] at h; exact ihm s1.e s1.H ρ1 a1 w1 h hE1 hR1 ha1 (hQ.mono hp1)
        | exit id => rw [hs] at h; simp only [Option.some.injEq] at h; subst h; have := hQ ρ1 a1 w1 hp1 hE1 hR1 ha1; rw [hs] at this; exact this
        | ret => rw [hs] at h; simp only [Option.some.injEq] at h; subst h; have := hQ ρ1 a1 w1 hp1 hE1 hR1 ha1; rw [hs] at this; exact this
    exact wp_loop_rounds n (key n e H ρ a w hk hE hR ha hQ)
  | _ =>
    intro k hc e H s hk
    simp only [cCode, Option.some.injEq] at hc
    subst hc
    simp [evCode] at hk

def resSem (a : Act) : ResultVar → Sem Value
  | .tmp t => pure (a.tmps.getD t undef)
  | .cell c t => do loadVar t (← asAddr (a.tmps.getD c undef))
theorem run_asAddr (b : Addr) (w : World) : (asAddr (.pointer (some b))).run P w = .ok b w := rfl

theorem res_ok {e : Env} {a : Act} {ρ : Rho} {H : Heap} {w : World} (hE : ERel P ρ e a) (hR : HRel P B w0 ρ H w) : ∀ (rs : List ResultVar) (ks : List KRes) (vs : List Value), cResL P rs = some ks → kResL e H ks = some vs →
    ∃ vs', (rs.mapM (resSem a)).run P w = .ok vs' w ∧ VL P ρ vs vs'
  | [], ks, vs, hc, hk => by
    simp [cResL] at hc; subst hc
    simp [kResL] at hk; subst hk
    exact ⟨[], by simp, VL.nil⟩
  | r :: rs, ks, vs, hc, hk => by
    simp only [cResL, Option.bind_eq_some_iff, Option.map_eq_some_iff] at hc
    obtain ⟨k, hk1, l, hl, rfl⟩ := hc
    simp only [kResL, Option.bind_eq_some_iff, Option.map_eq_some_iff] at hk
    obtain ⟨v, hv, vl, hvl, rfl⟩ := hk
    obtain ⟨vs', hrun, hrel⟩ := res_ok hE hR rs l vl hl hvl
    cases r with
    | tmp t =>
      simp only [cRes1, Option.some.injEq] at hk1; subst hk1
      simp only [kRes1, Option.some.injEq] at hv; subst hv
      exact ⟨a.tmps.getD t undef :: vs', by simp only [List.mapM_cons, resSem, Sem.run_bind, Sem.run_pure, Result.andThen_ok, hrun], VL.cons (hE t) hrel⟩
    | cell c t =>
      simp only [cRes1, Option.bind_eq_some_iff, Option.map_eq_some_iff] at hk1
      obtain ⟨d, hd, i, hi, rfl⟩ := hk1
      cases hag : isAggD d with
      | true =>
        rw [hag] at hv
        simp only [if_true, kRes1] at hv
        obtain ⟨b, v', hb, hr, hvv⟩ := ldn_run hd hag hi hR (hE c) hv
        exact ⟨v' :: vs', by simp only [List.mapM_cons, resSem, Sem.run_bind, Sem.run_pure, Result.andThen_ok, hb, run_asAddr, hr, hrun], VL.cons hvv hrel⟩
      | false =>
        rw [hag] at hv
        simp only [Bool.false_eq_true, if_false, kRes1] at hv
        obtain ⟨b, v', hb, hr, hvv⟩ := ld_run hd hag hR (hE c) hv
        exact ⟨v' :: vs', by simp only [List.mapM_cons, resSem, Sem.run_bind, Sem.run_pure, Result.andThen_ok, hb, run_asAddr, hr, hrun], VL.cons hvv hrel⟩

theorem results_ok {fn : Func} {e : Env} {a : Act} {ρ : Rho} {H : Heap} {w : World} {ks : List KRes} {v : Value} (hE : ERel P ρ e a) (hR : HRel P B w0 ρ H w) (hc : cResL P fn.results.toList = some ks) (hk : kRes e H ks = some v) :
    ∃ v', (results fn a.tmps).run P w = .ok v' w ∧ VRel P ρ v v' := by
  simp only [kRes, Option.map_eq_some_iff] at hk
  obtain ⟨vs, hvs, rfl⟩ := hk
  obtain ⟨vs', hrun, hrel⟩ := res_ok hE hR _ _ _ hc hvs
  have h1 : (results fn a.tmps).run P w = .ok (if h : vs'.toArray.size = 1 then vs'.toArray[0] else .tuple vs'.toArray) w := by
    have h0 : results fn a.tmps = (do
        let vs ← fn.results.mapM (resSem a)
        pure (if h : vs.size = 1 then vs[0] else .tuple vs)) := rfl
    rw [h0, Array.mapM_eq_mapM_toList]
    simp only [Sem.run_bind, Sem.run_map, hrun, Result.andThen_ok, Sem.run_pure]
  refine ⟨_, h1, ?_⟩
  match vs, vs', hrel with
  | [], [], _ => exact .tuple rfl (fun i x y hx => by simp at hx)
  | [x], [y], hrel => simpa [tup] using hrel.2 0 x y rfl rfl
  | x :: x2 :: xs, y :: y2 :: ys, hrel =>
    have : ¬ (y :: y2 :: ys).toArray.size = 1 := by simp
    rw [dif_neg this]
    exact .tuple (by have := hrel.1; simpa using this) (fun i p q hp hq => hrel.2 i p q (by simpa using hp) (by simpa using hq))
  | [], _ :: _, hrel => have := hrel.1; simp at this
  | _ :: _, [], hrel => have := hrel.1; simp at this
  | [_], _ :: _ :: _, hrel => have := hrel.1; simp at this
  | _ :: _ :: _, [_], hrel => have := hrel.1; simp at this

/-- a function that is told otherwise than by its code -/
def PrimOK (P : Program) (f : FuncId) (p : List Value → Heap → Option (Value × Heap)) : Prop :=
  okFunc P f = true ∧ ∀ (B : Nat) (w0 : World) (args : List Value) (H : Heap) (v : Value) (H' : Heap), p args H = some (v, H') → ∀ (ρ : Rho) (w : World) (cargs : List Value), HRel P B w0 ρ H w → VL P ρ args cargs →
    Calls P f cargs.toArray w fun e w' => ∃ ρ' cv, e = .returned cv ∧ ρ <+: ρ' ∧ VRel P ρ' v cv ∧ HRel P B w0 ρ' H' w'

structure SysOK (P : Program) (S : Sys) : Prop where
  meth : MethOK P S
  mixed : P.follows .mixedOrders = true
  fn : ∀ f k, S.F f = some k → okFunc P f = true ∧ ∃ fn, P.funcs[f]? = some fn ∧ cFunc P fn = some k
  prim : ∀ f p, S.R f = some p → PrimOK P f p

theorem init_ok {ρ : Rho} {args cargs : List Value} (hv : VL P ρ args cargs) (nt : Nat) :
    ERel P ρ args { tmps := cargs.toArray ++ Array.replicate (nt - cargs.toArray.size) undef, defers := [] } ∧ AOK nt { tmps := cargs.toArray ++ Array.replicate (nt - cargs.toArray.size) undef, defers := [] } := by
  refine ⟨fun n => ?_, by simp; omega, rfl⟩
  have hg : ∀ (l : List Value) (n : Nat), Env.get l n = (l[n]?).getD undef := by
    intro l
    induction l with
    | nil => intro n; simp [Env.get]
    | cons x l ih => intro n; cases n <;> simp [Env.get, ih]
  rw [hg, Array.getD_eq_getD_getElem?]
  rcases Nat.lt_or_ge n args.length with hlt | hge
  · have hlt' : n < cargs.length := hv.1 ▸ hlt
    rw [Array.getElem?_append_left (by simpa using hlt'), List.getElem?_eq_getElem hlt]
    simp only [List.getElem?_toArray, List.getElem?_eq_getElem hlt', Option.getD_some]
    exact hv.2 n _ _ (List.getElem?_eq_getElem hlt) (List.getElem?_eq_getElem hlt')
  · rw [List.getElem?_eq_none hge]
    have : ((cargs.toArray ++ Array.replicate (nt - cargs.toArray.size) undef)[n]?).getD undef = undef := by
      rw [Array.getElem?_append_right (by simpa [← hv.1] using hge)]
      cases h : (Array.replicate (nt - cargs.toArray.size) undef)[n - cargs.toArray.size]? with
      | none => rfl
      | some y =>
        obtain ⟨h1, h2⟩ := Array.getElem?_eq_some_iff.1 h
        simp at h2
        simp [← h2]
    rw [this]
    exact VRel.undef

theorem fn_ok0 {S : Sys} (hS : SysOK P S) : ∀ n B w0, CallOK P B w0 (evFn S n)
  | 0, B, w0 => by intro f args H v H' h; simp [evFn] at h
  | n + 1, B, w0 => by
    intro f args H v H' h
    simp only [evFn] at h
    split at h
    · rename_i p hp
      obtain ⟨h1, h2⟩ := hS.prim f p hp
      exact ⟨h1, h2 B w0 args H v H' h⟩
    · simp only [Option.bind_eq_some_iff] at h
      obtain ⟨k, hk, s, hs, h⟩ := h
      obtain ⟨hok, fn, hfn, hcf⟩ := hS.fn f k hk
      refine ⟨hok, fun ρ w cargs hR hv => ?_⟩
      simp only [cFunc, Option.bind_eq_some_iff, Option.map_eq_some_iff] at hcf
      obtain ⟨c, hc, kc, hkc, rs, hrs, rfl⟩ := hcf
      split at h
      · rename_i hx
        simp only [Option.map_eq_some_iff, Prod.mk.injEq] at h
        obtain ⟨r, hr, rfl, rfl⟩ := h
        obtain ⟨hE, ha⟩ := init_ok hv fn.ntmps
        refine calls_of_wp hfn hc (code_ok hS.meth (fn_ok0 hS n) hS.mixed n c kc hkc args H s hs ρ _ w _ hE hR ha ?_)
        intro ρ' a' w' hp hE' hR' ha'
        obtain ⟨v', hv1, hv2⟩ := results_ok hE' hR' hrs hr
        rcases hx with hx | hx
        · rw [hx]; exact ⟨ha'.2, v', hv1, ρ', v', rfl, hp, hv2, hR'⟩
        · rw [hx]; exact ⟨ha'.2, v', hv1, ρ', v', rfl, hp, hv2, hR'⟩
      · cases h

theorem fn_ok {S : Sys} (hS : SysOK P S) (n : Nat) : CallOK P B w0 (evFn S n) := fn_ok0 hS n B w0

end
end Go.Proofs.Ytlboioplemlneaa.K
