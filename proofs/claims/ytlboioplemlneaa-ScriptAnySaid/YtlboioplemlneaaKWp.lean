/- The words by which a run of K is told: Ws (steps), Wc (code), Wf (a function), each with its rules. -/
import Derived.Test.YtlboioplemlneaaKBase
set_option linter.unusedVariables false
set_option linter.unusedSimpArgs false
namespace Go.Proofs.Ytlboioplemlneaa.K
open Go

def LeO {α : Type} (x y : Option α) : Prop := ∀ a, x = some a → y = some a
def LeC (c d : CallO) : Prop := ∀ f args H, LeO (c f args H) (d f args H)

section
variable {S : Sys}

theorem exec_mono {c d : CallO} (h : LeC c d) (k : KOp) (e : Env) (H : Heap) : LeO (kExec S c k e H) (kExec S d k e H) := by
  intro a ha
  cases k <;> simp only [kExec] at ha ⊢ <;> try exact ha
  case call f args => exact h _ _ _ _ ha
  case callp f args =>
    split at ha
    · rename_i hg
      rw [if_pos hg]
      simp only [Option.bind_eq_some_iff] at ha ⊢
      obtain ⟨p, hp, ha⟩ := ha
      exact ⟨p, h _ _ _ _ hp, ha⟩
    · cases ha
  case callv f args =>
    split at ha
    · exact h _ _ _ _ ha
    · cases ha
  case inv r name args =>
    split at ha
    · simp only [Option.bind_eq_some_iff] at ha ⊢
      obtain ⟨p, hp, x, hx, ha⟩ := ha
      exact ⟨p, hp, x, hx, h _ _ _ _ ha⟩
    · cases ha

theorem step_mono {c d : CallO} (h : LeC c d) (s : KStep) (e : Env) (H : Heap) : LeO (kStep S c s e H) (kStep S d s e H) := by
  intro a ha
  cases s with
  | op dst g k =>
    simp only [kStep] at ha ⊢
    split at ha
    · rename_i hw
      rw [if_pos hw]
      simp only [Option.map_eq_some_iff] at ha ⊢
      obtain ⟨p, hp, ha⟩ := ha
      exact ⟨p, exec_mono h k e H p hp, ha⟩
    · rename_i hw
      rw [if_neg hw]; exact ha
  | chk dst g k => exact ha

theorem steps_mono {c d : CallO} (h : LeC c d) : ∀ (l : List KStep) (e : Env) (H : Heap), LeO (kSteps S c l e H) (kSteps S d l e H)
  | [], e, H => fun a ha => ha
  | s :: l, e, H => fun a ha => by
    simp only [kSteps, Option.bind_eq_some_iff] at ha ⊢
    obtain ⟨p, hp, ha⟩ := ha
    exact ⟨p, step_mono h s e H p hp, steps_mono h l p.1 p.2 a ha⟩

theorem loop_mono {f g : Env → Heap → Option KSt} (h : ∀ e H, LeO (f e H) (g e H)) : ∀ (n m : Nat), n ≤ m → ∀ e H, LeO (evLoop f n e H) (evLoop g m e H)
  | 0, _, _, e, H => fun a ha => by simp [evLoop] at ha
  | n + 1, 0, hle, e, H => by omega
  | n + 1, m + 1, hle, e, H => fun a ha => by
    simp only [evLoop, Option.bind_eq_some_iff] at ha ⊢
    obtain ⟨s, hs, ha⟩ := ha
    refine ⟨s, h e H s hs, ?_⟩
    split at ha
    · exact loop_mono h n m (by omega) _ _ a ha
    · exact ha

theorem code_mono {c d : CallO} (h : LeC c d) {n m : Nat} (hle : n ≤ m) : ∀ (k : KCode) (e : Env) (H : Heap), LeO (evCode S c n k e H) (evCode S d m k e H) := by
  intro k
  induction k with
  | skip => intro e H a ha; exact ha
  | nev => intro e H a ha; exact ha
  | exit id => intro e H a ha; exact ha
  | ret => intro e H a ha; exact ha
  | reg l =>
    intro e H a ha
    simp only [evCode, Option.map_eq_some_iff] at ha ⊢
    obtain ⟨p, hp, ha⟩ := ha
    exact ⟨p, steps_mono h l e H p hp, ha⟩
  | seq x y ihx ihy =>
    intro e H a ha
    simp only [evCode, Option.bind_eq_some_iff] at ha ⊢
    obtain ⟨s, hs, ha⟩ := ha
    refine ⟨s, ihx e H s hs, ?_⟩
    split at ha
    · exact ihy _ _ a ha
    · exact ha
  | cond o x y ihx ihy =>
    intro e H a ha
    simp only [evCode] at ha ⊢
    split at ha
    · exact ihx _ _ a ha
    · exact ihy _ _ a ha
    · cases ha
  | block id x ih =>
    intro e H a ha
    simp only [evCode, Option.map_eq_some_iff] at ha ⊢
    obtain ⟨s, hs, ha⟩ := ha
    exact ⟨s, ih e H s hs, ha⟩
  | loop x ih =>
    intro e H a ha
    simp only [evCode] at ha ⊢
    exact loop_mono ih n m hle e H a ha

theorem fn_mono : ∀ (n m : Nat), n ≤ m → LeC (evFn S n) (evFn S m)
  | 0, _, _ => fun f args H a ha => by simp [evFn] at ha
  | n + 1, 0, h => by omega
  | n + 1, m + 1, h => fun f args H a ha => by
    simp only [evFn] at ha ⊢
    split at ha
    · exact ha
    · simp only [Option.bind_eq_some_iff] at ha ⊢
      obtain ⟨k, hk, s, hs, ha⟩ := ha
      exact ⟨k, hk, s, code_mono (fn_mono n m (by omega)) (by omega) k.body args H s hs, ha⟩

/-- a function, called: it answers, and what is told holds of the answer -/
def Wf (S : Sys) (f : FuncId) (args : List Value) (H : Heap) (Q : Value → Heap → Prop) : Prop := ∃ n v H', evFn S n f args H = some (v, H') ∧ Q v H'
def Wc (S : Sys) (c : KCode) (e : Env) (H : Heap) (Q : KExit → Env → Heap → Prop) : Prop := ∃ n x e' H', evCode S (evFn S n) n c e H = some ⟨x, e', H'⟩ ∧ Q x e' H'
def Ws (S : Sys) (l : List KStep) (e : Env) (H : Heap) (Q : Env → Heap → Prop) : Prop := ∃ n e' H', kSteps S (evFn S n) l e H = some (e', H') ∧ Q e' H'

theorem Wf.mono {f : FuncId} {args : List Value} {H : Heap} {Q Q' : Value → Heap → Prop} (h : Wf S f args H Q) (hq : ∀ v H', Q v H' → Q' v H') : Wf S f args H Q' := by
  obtain ⟨n, v, H', h1, h2⟩ := h; exact ⟨n, v, H', h1, hq v H' h2⟩
theorem Wc.mono {c : KCode} {e : Env} {H : Heap} {Q Q' : KExit → Env → Heap → Prop} (h : Wc S c e H Q) (hq : ∀ x e' H', Q x e' H' → Q' x e' H') : Wc S c e H Q' := by
  obtain ⟨n, x, e', H', h1, h2⟩ := h; exact ⟨n, x, e', H', h1, hq x e' H' h2⟩

/-- the same call has the same answer -/
theorem Wf.det {f : FuncId} {args : List Value} {H : Heap} {Q Q' : Value → Heap → Prop} (h : Wf S f args H Q) (h' : Wf S f args H Q') : Wf S f args H fun v H' => Q v H' ∧ Q' v H' := by
  obtain ⟨n, v, H1, h1, h2⟩ := h
  obtain ⟨n', v', H1', h1', h2'⟩ := h'
  have a := fn_mono n (max n n') (Nat.le_max_left _ _) f args H _ h1
  have b := fn_mono n' (max n n') (Nat.le_max_right _ _) f args H _ h1'
  rw [a] at b
  simp only [Option.some.injEq, Prod.mk.injEq] at b
  obtain ⟨rfl, rfl⟩ := b
  exact ⟨n, v, H1, h1, h2, h2'⟩

theorem Ws_nil {e : Env} {H : Heap} {Q : Env → Heap → Prop} : Ws S [] e H Q = Q e H := by
  apply propext
  constructor
  · rintro ⟨n, e', H', h, hq⟩
    simp only [kSteps, Option.some.injEq, Prod.mk.injEq] at h
    obtain ⟨rfl, rfl⟩ := h; exact hq
  · intro h; exact ⟨0, e, H, rfl, h⟩

theorem Ws_cons_of {s : KStep} {l : List KStep} {e : Env} {H : Heap} {Q : Env → Heap → Prop} {n : Nat} {e1 : Env} {H1 : Heap} (h : kStep S (evFn S n) s e H = some (e1, H1)) (hq : Ws S l e1 H1 Q) : Ws S (s :: l) e H Q := by
  obtain ⟨m, e', H', h2, hq⟩ := hq
  refine ⟨max n m, e', H', ?_, hq⟩
  simp only [kSteps, Option.bind_eq_some_iff]
  exact ⟨(e1, H1), step_mono (fn_mono n _ (Nat.le_max_left _ _)) s e H _ h, steps_mono (fn_mono m _ (Nat.le_max_right _ _)) l e1 H1 _ h2⟩

def oThen (x : Option (Value × Heap)) (K : Value → Heap → Prop) : Prop := ∃ v H, x = some (v, H) ∧ K v H
@[simp] theorem oThen_some {v : Value} {H : Heap} {K : Value → Heap → Prop} : oThen (some (v, H)) K = K v H := by
  apply propext; constructor
  · rintro ⟨v', H', h, hk⟩; cases h; exact hk
  · intro h; exact ⟨v, H, rfl, h⟩
@[simp] theorem oThen_none {K : Value → Heap → Prop} : oThen none K = False := by
  apply propext; constructor
  · rintro ⟨v', H', h, hk⟩; cases h
  · intro h; exact h.elim

/-- what a step of its own does -/
def stepThen (S : Sys) (k : KOp) (e : Env) (H : Heap) (K : Value → Heap → Prop) : Prop :=
  match k with
  | .call f args => Wf S f (args.map e.ev) H K
  | .callp f args => (args.map e.ev).all gndV = true ∧ Wf S f (args.map e.ev) [] fun v _ => gndV v = true ∧ K v H
  | .callv f args => match e.ev f with
    | .func (.func f) first cap => Wf S f (first.toList ++ args.map e.ev ++ cap.toList) H K
    | _ => False
  | .inv r name args => match e.ev r with
    | .iface t v => match S.M t name with
      | some (f, rk) => match recvOf H v rk with
        | some x => Wf S f (x :: args.map e.ev) H K
        | none => False
      | none => False
    | _ => False
  | k => oThen (kop k e H) K

theorem stepThen_iff {k : KOp} {e : Env} {H : Heap} {K : Value → Heap → Prop} : stepThen S k e H K ↔ ∃ n v H', kExec S (evFn S n) k e H = some (v, H') ∧ K v H' := by
  cases k <;> simp only [stepThen, kExec] <;> try (exact ⟨fun ⟨v, H', h⟩ => ⟨0, v, H', h⟩, fun ⟨_, v, H', h⟩ => ⟨v, H', h⟩⟩)
  case call f args => exact Iff.rfl
  case callp f args =>
    constructor
    · rintro ⟨hg, n, v, H', h1, h2, h3⟩
      exact ⟨n, v, H, by rw [if_pos hg, h1]; simp [h2], h3⟩
    · rintro ⟨n, v, H', h, hk⟩
      split at h
      · rename_i hg
        simp only [Option.bind_eq_some_iff] at h
        obtain ⟨⟨v2, H2⟩, h1, h⟩ := h
        split at h
        · rename_i hv
          simp only [Option.some.injEq, Prod.mk.injEq] at h
          obtain ⟨rfl, rfl⟩ := h
          exact ⟨hg, n, v2, H2, h1, hv, hk⟩
        · cases h
      · cases h
  case callv f args =>
    generalize e.ev f = x
    cases x with
    | func fn first cap =>
      cases fn with
      | func g => exact Iff.rfl
      | _ => exact ⟨fun h => h.elim, fun ⟨n, v, H', h, _⟩ => by cases h⟩
    | _ => exact ⟨fun h => h.elim, fun ⟨n, v, H', h, _⟩ => by cases h⟩
  case inv r name args =>
    generalize e.ev r = x
    cases x with
    | iface t v =>
      simp only
      cases hM : S.M t name with
      | none => exact ⟨fun h => h.elim, fun ⟨n, v, H', h, _⟩ => by simp at h⟩
      | some p =>
        obtain ⟨f, rk⟩ := p
        simp only [Option.bind_some]
        cases hr : recvOf H v rk with
        | none => exact ⟨fun h => h.elim, fun ⟨n, v, H', h, _⟩ => by simp at h⟩
        | some x => simp only [Option.bind_some]; exact Iff.rfl
    | _ => exact ⟨fun h => h.elim, fun ⟨n, v, H', h, _⟩ => by cases h⟩

theorem Ws_op {d : Option Nat} {g : Option (Nat × Bool)} {k : KOp} {l : List KStep} {e : Env} {H : Heap} {Q : Env → Heap → Prop} :
    Ws S (.op d g k :: l) e H Q = if wants e g = true then stepThen S k e H fun v H' => Ws S l (setO e d v) H' Q else Ws S l (setO e d undef) H Q := by
  apply propext
  split
  · rename_i hw
    rw [stepThen_iff]
    constructor
    · rintro ⟨n, e', H', h, hq⟩
      simp only [kSteps, Option.bind_eq_some_iff, kStep] at h
      rw [if_pos hw] at h
      obtain ⟨p, hp, h⟩ := h
      simp only [Option.map_eq_some_iff] at hp
      obtain ⟨⟨v, H1⟩, hx, rfl⟩ := hp
      exact ⟨n, v, H1, hx, n, e', H', h, hq⟩
    · rintro ⟨n, v, H1, hx, hq⟩
      exact Ws_cons_of (n := n) (by simp only [kStep]; rw [if_pos hw, hx]; rfl) hq
  · rename_i hw
    constructor
    · rintro ⟨n, e', H', h, hq⟩
      simp only [kSteps, Option.bind_eq_some_iff, kStep] at h
      rw [if_neg hw] at h
      obtain ⟨p, hp, h⟩ := h
      cases hp
      exact ⟨n, e', H', h, hq⟩
    · intro hq
      exact Ws_cons_of (n := 0) (by simp only [kStep]; rw [if_neg hw]) hq

theorem Ws_chk {d : Nat} {g : Option (Nat × Bool)} {k : KOp} {l : List KStep} {e : Env} {H : Heap} {Q : Env → Heap → Prop} :
    Ws S (.chk d g k :: l) e H Q = if wants e g = true then oThen (kop k e H) fun v _ => veq v (e.get d) = true ∧ Ws S l e H Q else Ws S l e H Q := by
  apply propext
  split
  · rename_i hw
    constructor
    · rintro ⟨n, e', H', h, hq⟩
      simp only [kSteps, Option.bind_eq_some_iff, kStep] at h
      rw [if_pos hw] at h
      obtain ⟨p, hp, h⟩ := h
      simp only [Option.bind_eq_some_iff] at hp
      obtain ⟨⟨v, H1⟩, hx, hp⟩ := hp
      split at hp
      · rename_i hv
        cases hp
        exact ⟨v, H1, hx, hv, n, e', H', h, hq⟩
      · cases hp
    · rintro ⟨v, H1, hx, hv, hq⟩
      exact Ws_cons_of (n := 0) (by simp only [kStep]; rw [if_pos hw, hx, Option.bind_some, if_pos hv]) hq
  · rename_i hw
    constructor
    · rintro ⟨n, e', H', h, hq⟩
      simp only [kSteps, Option.bind_eq_some_iff, kStep] at h
      rw [if_neg hw] at h
      obtain ⟨p, hp, h⟩ := h
      cases hp
      exact ⟨n, e', H', h, hq⟩
    · intro hq
      exact Ws_cons_of (n := 0) (by simp only [kStep]; rw [if_neg hw]) hq

theorem Wc_skip {e : Env} {H : Heap} {Q : KExit → Env → Heap → Prop} : Wc S .skip e H Q = Q .normal e H := by
  apply propext; constructor
  · rintro ⟨n, x, e', H', h, hq⟩; simp only [evCode, Option.some.injEq, KSt.mk.injEq] at h; obtain ⟨rfl, rfl, rfl⟩ := h; exact hq
  · intro h; exact ⟨0, _, _, _, rfl, h⟩
theorem Wc_exit {id : Nat} {e : Env} {H : Heap} {Q : KExit → Env → Heap → Prop} : Wc S (.exit id) e H Q = Q (.exit id) e H := by
  apply propext; constructor
  · rintro ⟨n, x, e', H', h, hq⟩; simp only [evCode, Option.some.injEq, KSt.mk.injEq] at h; obtain ⟨rfl, rfl, rfl⟩ := h; exact hq
  · intro h; exact ⟨0, _, _, _, rfl, h⟩
theorem Wc_ret {e : Env} {H : Heap} {Q : KExit → Env → Heap → Prop} : Wc S .ret e H Q = Q .ret e H := by
  apply propext; constructor
  · rintro ⟨n, x, e', H', h, hq⟩; simp only [evCode, Option.some.injEq, KSt.mk.injEq] at h; obtain ⟨rfl, rfl, rfl⟩ := h; exact hq
  · intro h; exact ⟨0, _, _, _, rfl, h⟩
theorem Wc_reg {l : List KStep} {e : Env} {H : Heap} {Q : KExit → Env → Heap → Prop} : Wc S (.reg l) e H Q = Ws S l e H (Q .normal) := by
  apply propext; constructor
  · rintro ⟨n, x, e', H', h, hq⟩
    simp only [evCode, Option.map_eq_some_iff, KSt.mk.injEq] at h
    obtain ⟨p, hp, rfl, rfl, rfl⟩ := h
    exact ⟨n, p.1, p.2, hp, hq⟩
  · rintro ⟨n, e', H', h, hq⟩
    exact ⟨n, .normal, e', H', by simp [evCode, h], hq⟩

def KExit.go (K : Env → Heap → Prop) (Q : KExit → Env → Heap → Prop) : KExit → Env → Heap → Prop
  | .normal, e, H => K e H
  | x, e, H => Q x e H
@[simp] theorem go_normal {K : Env → Heap → Prop} {Q : KExit → Env → Heap → Prop} {e : Env} {H : Heap} : KExit.go K Q .normal e H = K e H := rfl
@[simp] theorem go_exit {K : Env → Heap → Prop} {Q : KExit → Env → Heap → Prop} {id : Nat} {e : Env} {H : Heap} : KExit.go K Q (.exit id) e H = Q (.exit id) e H := rfl
@[simp] theorem go_ret {K : Env → Heap → Prop} {Q : KExit → Env → Heap → Prop} {e : Env} {H : Heap} : KExit.go K Q .ret e H = Q .ret e H := rfl

theorem Wc_seq {a b : KCode} {e : Env} {H : Heap} {Q : KExit → Env → Heap → Prop} : Wc S (.seq a b) e H Q = Wc S a e H (KExit.go (fun e' H' => Wc S b e' H' Q) Q) := by
  apply propext; constructor
  · rintro ⟨n, x, e', H', h, hq⟩
    simp only [evCode, Option.bind_eq_some_iff] at h
    obtain ⟨⟨x1, e1, H1⟩, h1, h⟩ := h
    refine ⟨n, x1, e1, H1, h1, ?_⟩
    cases x1 with
    | normal => exact ⟨n, x, e', H', h, hq⟩
    | exit id => simp only [Option.some.injEq, KSt.mk.injEq] at h; obtain ⟨rfl, rfl, rfl⟩ := h; exact hq
    | ret => simp only [Option.some.injEq, KSt.mk.injEq] at h; obtain ⟨rfl, rfl, rfl⟩ := h; exact hq
  · rintro ⟨n, x1, e1, H1, h1, hq⟩
    cases x1 with
    | normal =>
      obtain ⟨m, x, e', H', h2, hq⟩ := hq
      refine ⟨max n m, x, e', H', ?_, hq⟩
      simp only [evCode, Option.bind_eq_some_iff]
      exact ⟨_, code_mono (fn_mono n _ (Nat.le_max_left _ _)) (Nat.le_max_left _ _) a e H _ h1, code_mono (fn_mono m _ (Nat.le_max_right _ _)) (Nat.le_max_right _ _) b e1 H1 _ h2⟩
    | exit id => exact ⟨n, _, _, _, by simp [evCode, h1], hq⟩
    | ret => exact ⟨n, _, _, _, by simp [evCode, h1], hq⟩

theorem Wc_cond {c : Opd} {a b : KCode} {e : Env} {H : Heap} {Q : KExit → Env → Heap → Prop} {t : Bool} (hc : e.ev c = .bool t) : Wc S (.cond c a b) e H Q = if t = true then Wc S a e H Q else Wc S b e H Q := by
  cases t
  · simp only [Wc, evCode, hc, Bool.false_eq_true, if_false]
  · simp only [Wc, evCode, hc, if_true]

def condThen (v : Value) (A B : Prop) : Prop :=
  match v with
  | .bool true => A
  | .bool false => B
  | _ => False
@[simp] theorem condThen_bool {b : Bool} {A B : Prop} : condThen (.bool b) A B = if b = true then A else B := by cases b <;> rfl
theorem Wc_cond' {c : Opd} {a b : KCode} {e : Env} {H : Heap} {Q : KExit → Env → Heap → Prop} : Wc S (.cond c a b) e H Q = condThen (e.ev c) (Wc S a e H Q) (Wc S b e H Q) := by
  apply propext
  unfold condThen Wc
  simp only [evCode]
  generalize e.ev c = x
  cases x with
  | bool t => cases t <;> exact Iff.rfl
  | _ => exact ⟨(fun ⟨n, x, e', H', h, _⟩ => by cases h), (fun h => h.elim)⟩

def KExit.inB (id : Nat) (Q : KExit → Env → Heap → Prop) : KExit → Env → Heap → Prop
  | .exit j, e, H => if j = id then Q .normal e H else Q (.exit j) e H
  | x, e, H => Q x e H
@[simp] theorem inB_normal {id : Nat} {Q : KExit → Env → Heap → Prop} {e : Env} {H : Heap} : KExit.inB id Q .normal e H = Q .normal e H := rfl
@[simp] theorem inB_ret {id : Nat} {Q : KExit → Env → Heap → Prop} {e : Env} {H : Heap} : KExit.inB id Q .ret e H = Q .ret e H := rfl
@[simp] theorem inB_exit {id j : Nat} {Q : KExit → Env → Heap → Prop} {e : Env} {H : Heap} : KExit.inB id Q (.exit j) e H = if j = id then Q .normal e H else Q (.exit j) e H := rfl

theorem Wc_block {id : Nat} {c : KCode} {e : Env} {H : Heap} {Q : KExit → Env → Heap → Prop} : Wc S (.block id c) e H Q = Wc S c e H (KExit.inB id Q) := by
  apply propext; constructor
  · rintro ⟨n, x, e', H', h, hq⟩
    simp only [evCode, Option.map_eq_some_iff] at h
    obtain ⟨⟨x1, e1, H1⟩, h1, h⟩ := h
    refine ⟨n, x1, e1, H1, h1, ?_⟩
    split at h
    · rename_i hx
      simp only at hx
      subst hx
      simp only [KSt.mk.injEq] at h
      obtain ⟨rfl, rfl, rfl⟩ := h
      simp [hq]
    · rename_i hx
      simp only [KSt.mk.injEq] at h
      obtain ⟨rfl, rfl, rfl⟩ := h
      cases x1 with
      | normal => exact hq
      | ret => exact hq
      | exit j => simp only at hx; simp only [inB_exit]; rw [if_neg (fun e => hx (by rw [e]))]; exact hq
  · rintro ⟨n, x1, e1, H1, h1, hq⟩
    cases x1 with
    | normal => exact ⟨n, .normal, e1, H1, by simp [evCode, h1], hq⟩
    | ret => exact ⟨n, .ret, e1, H1, by simp [evCode, h1], hq⟩
    | exit j =>
      simp only [inB_exit] at hq
      by_cases hj : j = id
      · rw [if_pos hj] at hq; exact ⟨n, .normal, e1, H1, by simp [evCode, h1, hj], hq⟩
      · rw [if_neg hj] at hq; exact ⟨n, .exit j, e1, H1, by simp [evCode, h1, hj], hq⟩

/-- one round more -/
theorem Wc_loop {c : KCode} {e : Env} {H : Heap} {Q : KExit → Env → Heap → Prop} (h : Wc S c e H (KExit.go (fun e' H' => Wc S (.loop c) e' H' Q) Q)) : Wc S (.loop c) e H Q := by
  obtain ⟨n, x1, e1, H1, h1, hq⟩ := h
  cases x1 with
  | normal =>
    obtain ⟨m, x, e', H', h2, hq⟩ := hq
    refine ⟨max n m + 1, x, e', H', ?_, hq⟩
    simp only [evCode] at h2 ⊢
    simp only [evLoop, Option.bind_eq_some_iff]
    refine ⟨⟨.normal, e1, H1⟩, code_mono (fn_mono n _ (by have := Nat.le_max_left n m; omega)) (by have := Nat.le_max_left n m; omega) c e H _ h1, ?_⟩
    exact loop_mono (fun e H => code_mono (fn_mono m _ (by have := Nat.le_max_right n m; omega)) (by have := Nat.le_max_right n m; omega) c e H) m _ (Nat.le_max_right n m) e1 H1 _ h2
  | exit id =>
    refine ⟨n + 1, .exit id, e1, H1, ?_, hq⟩
    simp only [evCode, evLoop]
    rw [code_mono (fn_mono n (n + 1) (by omega)) (by omega : n ≤ n + 1) c e H _ h1]; rfl
  | ret =>
    refine ⟨n + 1, .ret, e1, H1, ?_, hq⟩
    simp only [evCode, evLoop]
    rw [code_mono (fn_mono n (n + 1) (by omega)) (by omega : n ≤ n + 1) c e H _ h1]; rfl

/-- a loop by what holds at each round's head, and what each round lowers -/
theorem Wc_inv {c : KCode} {Q : KExit → Env → Heap → Prop} (I : Nat → Env → Heap → Prop) (hround : ∀ d e H, I d e H → Wc S c e H (KExit.go (fun e' H' => ∃ d', d' < d ∧ I d' e' H') Q)) : ∀ d e H, I d e H → Wc S (.loop c) e H Q := by
  intro d
  induction d using Nat.strongRecOn with
  | _ d ih =>
    intro e H h
    refine Wc_loop ((hround d e H h).mono fun x e' H' hx => ?_)
    cases x with
    | normal => obtain ⟨d', hd, hI⟩ := hx; exact ih d' hd e' H' hI
    | exit id => exact hx
    | ret => exact hx

/-- a function's end -/
def fin (rs : List KRes) (Q : Value → Heap → Prop) : KExit → Env → Heap → Prop
  | .exit _, _, _ => False
  | _, e, H => match kRes e H rs with
    | some v => Q v H
    | none => False
theorem fin_normal {rs : List KRes} {Q : Value → Heap → Prop} {e : Env} {H : Heap} {v : Value} (h : kRes e H rs = some v) : fin rs Q .normal e H = Q v H := by simp [fin, h]
theorem fin_ret {rs : List KRes} {Q : Value → Heap → Prop} {e : Env} {H : Heap} {v : Value} (h : kRes e H rs = some v) : fin rs Q .ret e H = Q v H := by simp [fin, h]

theorem Wf_fn {f : FuncId} {k : KFunc} (hR : S.R f = none) (hF : S.F f = some k) {args : List Value} {H : Heap} {Q : Value → Heap → Prop} (h : Wc S k.body args H (fin k.res Q)) : Wf S f args H Q := by
  obtain ⟨n, x, e', H', h, hq⟩ := h
  have hx : (x = .normal ∨ x = .ret) ∧ ∃ v, kRes e' H' k.res = some v ∧ Q v H' := by
    cases x with
    | exit id => exact hq.elim
    | normal =>
      refine ⟨.inl rfl, ?_⟩
      simp only [fin] at hq
      split at hq
      · rename_i v hv; exact ⟨v, hv, hq⟩
      · exact hq.elim
    | ret =>
      refine ⟨.inr rfl, ?_⟩
      simp only [fin] at hq
      split at hq
      · rename_i v hv; exact ⟨v, hv, hq⟩
      · exact hq.elim
  obtain ⟨hx, v, hv, hq⟩ := hx
  refine ⟨n + 1, v, H', ?_, hq⟩
  simp only [evFn, hR, hF, Option.bind_some, h]
  rw [if_pos hx, hv]; rfl

theorem Wf_prim {f : FuncId} {p : List Value → Heap → Option (Value × Heap)} (hR : S.R f = some p) {args : List Value} {H : Heap} {Q : Value → Heap → Prop} (h : oThen (p args H) Q) : Wf S f args H Q := by
  obtain ⟨v, H', h1, h2⟩ := h
  exact ⟨1, v, H', by simp only [evFn, hR, h1], h2⟩

end
end Go.Proofs.Ytlboioplemlneaa.K
