/- Words that unfold by definition alone: what a code of K does, told with the rest as a function, so that printed texts are held against the code by the kernel. -/
import Derived.Test.YtccjanieihlpcaaKTop
set_option linter.unusedVariables false
set_option linter.unusedSimpArgs false
namespace Go.Proofs.Ytccjanieihlpcaa.K
open Go

abbrev Kv := Value → Heap → Prop
abbrev Kx := KExit → Env → Heap → Prop

def oT : Option (Value × Heap) → Kv → Prop
  | some p, K => K p.1 p.2
  | none, _ => False
@[simp] theorem oT_some {v : Value} {H : Heap} {K : Kv} : oT (some (v, H)) K = K v H := _root_.id rfl
@[simp] theorem oT_none {K : Kv} : oT none K = False := _root_.id rfl
theorem oT_iff {x : Option (Value × Heap)} {K : Kv} : oT x K = oThen x K := by
  cases x with
  | none => simp
  | some p => obtain ⟨v, H⟩ := p; simp
@[congr] theorem oT_congr {x y : Option (Value × Heap)} {K : Kv} (h : x = y) : oT x K = oT y K := by rw [h]

/-- one operation -/
def run (S : Sys) (k : KOp) (e : Env) (H : Heap) (K : Kv) : Prop :=
  match k with
  | .mv x => K (e.ev x) H
  | .call f args => Wf S f (args.map e.ev) H K
  | .callv f args => match e.ev f with
    | .func (.func f) first cap => Wf S f (first.toList ++ args.map e.ev ++ cap.toList) H K
    | _ => False
  | .inv r name args => match e.ev r with
    | .iface t v => match S.M t name with
      | some (f, rk) => match recvOf H v rk with
        | some x => Wf S f (x :: args.map e.ev) H K
        | none => False
      | none => False
    | _ => False
  | k => oT (kop k e H) K

theorem run_iff {S : Sys} {k : KOp} {e : Env} {H : Heap} {K : Kv} : run S k e H K = stepThen S k e H K := by
  cases k <;> first
    | rfl
    | (simp only [run, stepThen, oT_iff] <;> done)
    | (simp [run, stepThen, kop] <;> done)
    | (simp only [run, stepThen]; rename_i f _; cases e.ev f <;> first | rfl | (rename_i fn _ _; cases fn <;> rfl))
    | (simp only [run, stepThen]; rename_i r _ _; cases e.ev r <;> rfl)

def wantsV (v : Value) (w : Bool) : Bool :=
  match v with
  | .bool b => b == w
  | _ => false
@[simp] theorem wantsV_bool {b w : Bool} : wantsV (.bool b) w = (b == w) := _root_.id rfl
@[simp] theorem wantsV_undef {w : Bool} : wantsV undef w = false := _root_.id rfl

def gd (g : Value) (w : Bool) (x : Kv → Prop) (H : Heap) (K : Kv) : Prop := if wantsV g w = true then x K else K undef H
@[congr] theorem gd_congr {g g' : Value} {w : Bool} {x : Kv → Prop} {H : Heap} {K : Kv} (h : g = g') : gd g w x H K = gd g' w x H K := by rw [h]
@[simp] theorem gd_tt {x : Kv → Prop} {H : Heap} {K : Kv} : gd (.bool true) true x H K = x K := _root_.id rfl
@[simp] theorem gd_ft {x : Kv → Prop} {H : Heap} {K : Kv} : gd (.bool false) true x H K = K undef H := _root_.id rfl
@[simp] theorem gd_tf {x : Kv → Prop} {H : Heap} {K : Kv} : gd (.bool true) false x H K = K undef H := _root_.id rfl
@[simp] theorem gd_ff {x : Kv → Prop} {H : Heap} {K : Kv} : gd (.bool false) false x H K = x K := _root_.id rfl
@[simp] theorem gd_un {w : Bool} {x : Kv → Prop} {H : Heap} {K : Kv} : gd undef w x H K = K undef H := _root_.id rfl
theorem gd_split {b w : Bool} {x : Kv → Prop} {H : Heap} {K : Kv} (h1 : b = w → x K) (h2 : b ≠ w → K undef H) : gd (.bool b) w x H K := by
  unfold gd
  cases b <;> cases w <;> simp at * <;> assumption

def ck (x : Option (Value × Heap)) (v : Value) (P : Prop) : Prop := oT x fun v' _ => veq v' v = true ∧ P
def cg (g : Value) (w : Bool) (x : Option (Value × Heap)) (v : Value) (P : Prop) : Prop := (wantsV g w = true → oT x fun v' _ => veq v' v = true) ∧ P

def wpS (S : Sys) : List KStep → Env → Heap → (Env → Heap → Prop) → Prop
  | [], e, H, Q => Q e H
  | .op d none k :: l, e, H, Q => run S k e H fun v H' => wpS S l (setO e d v) H' Q
  | .op d (some (s, w)) k :: l, e, H, Q => gd (e.get s) w (run S k e H) H fun v H' => wpS S l (setO e d v) H' Q
  | .chk d none k :: l, e, H, Q => ck (kop k e H) (e.get d) (wpS S l e H Q)
  | .chk d (some (s, w)) k :: l, e, H, Q => cg (e.get s) w (kop k e H) (e.get d) (wpS S l e H Q)

theorem stepThen_mono {S : Sys} {k : KOp} {e : Env} {H : Heap} {K K' : Kv} (h : ∀ v H, K v H → K' v H) (x : stepThen S k e H K) : stepThen S k e H K' := by
  rw [stepThen_iff] at x ⊢
  obtain ⟨n, v, H', hx, hk⟩ := x
  exact ⟨n, v, H', hx, h _ _ hk⟩

theorem wpS_ok {S : Sys} : ∀ (l : List KStep) (e : Env) (H : Heap) (Q : Env → Heap → Prop), wpS S l e H Q → Ws S l e H Q
  | [], e, H, Q => fun h => by rw [Ws_nil]; exact h
  | .op d none k :: l, e, H, Q => fun h => by
    rw [Ws_op]; simp only [wants, if_true]
    simp only [wpS, run_iff] at h
    exact stepThen_mono (fun v H' hv => wpS_ok l _ _ Q hv) h
  | .op d (some (s, w)) k :: l, e, H, Q => fun h => by
    rw [Ws_op]
    have hw : wants e (some (s, w)) = wantsV (e.get s) w := by simp only [wants, wantsV]; cases e.get s <;> rfl
    rw [hw]
    simp only [wpS, gd, run_iff] at h
    split
    · rename_i hb
      rw [if_pos hb] at h
      exact stepThen_mono (fun v H' hv => wpS_ok l _ _ Q hv) h
    · rename_i hb
      rw [if_neg hb] at h
      exact wpS_ok l _ _ Q h
  | .chk d none k :: l, e, H, Q => fun h => by
    rw [Ws_chk]; simp only [wants, if_true]
    simp only [wpS, ck, oT_iff] at h
    obtain ⟨v, H', h1, h2, h3⟩ := h
    exact ⟨v, H', h1, h2, wpS_ok l _ _ Q h3⟩
  | .chk d (some (s, w)) k :: l, e, H, Q => fun h => by
    rw [Ws_chk]
    have hw : wants e (some (s, w)) = wantsV (e.get s) w := by simp only [wants, wantsV]; cases e.get s <;> rfl
    rw [hw]
    simp only [wpS, cg, oT_iff] at h
    split
    · rename_i hb
      obtain ⟨v, H', h1, h2⟩ := h.1 hb
      exact ⟨v, H', h1, h2, wpS_ok l _ _ Q h.2⟩
    · exact wpS_ok l _ _ Q h.2

def cnd (v : Value) (A B : Kx → Prop) (Q : Kx) : Prop :=
  match v with
  | .bool true => A Q
  | .bool false => B Q
  | _ => False
@[congr] theorem cnd_congr {g g' : Value} {A B : Kx → Prop} {Q : Kx} (h : g = g') : cnd g A B Q = cnd g' A B Q := by rw [h]
@[simp] theorem cnd_true {A B : Kx → Prop} {Q : Kx} : cnd (.bool true) A B Q = A Q := _root_.id rfl
@[simp] theorem cnd_false {A B : Kx → Prop} {Q : Kx} : cnd (.bool false) A B Q = B Q := _root_.id rfl
theorem cnd_split {b : Bool} {A B : Kx → Prop} {Q : Kx} (h1 : b = true → A Q) (h2 : b = false → B Q) : cnd (.bool b) A B Q := by
  cases b
  · exact h2 rfl
  · exact h1 rfl

/-- the rest behind a code -/
def sq (R : Env → Heap → Prop) (Q : Kx) : Kx
  | .normal, e, H => R e H
  | x, e, H => Q x e H
@[simp] theorem sq_normal {R : Env → Heap → Prop} {Q : Kx} {e : Env} {H : Heap} : sq R Q .normal e H = R e H := _root_.id rfl
@[simp] theorem sq_exit {R : Env → Heap → Prop} {Q : Kx} {id : Nat} {e : Env} {H : Heap} : sq R Q (.exit id) e H = Q (.exit id) e H := _root_.id rfl
@[simp] theorem sq_ret {R : Env → Heap → Prop} {Q : Kx} {e : Env} {H : Heap} : sq R Q .ret e H = Q .ret e H := _root_.id rfl
theorem sq_go {R : Env → Heap → Prop} {Q : Kx} : sq R Q = KExit.go R Q := by funext x e H; cases x <;> rfl
def blk (id : Nat) (Q : Kx) : Kx
  | .exit j, e, H => if j = id then Q .normal e H else Q (.exit j) e H
  | x, e, H => Q x e H
@[simp] theorem blk_normal {id : Nat} {Q : Kx} {e : Env} {H : Heap} : blk id Q .normal e H = Q .normal e H := _root_.id rfl
@[simp] theorem blk_ret {id : Nat} {Q : Kx} {e : Env} {H : Heap} : blk id Q .ret e H = Q .ret e H := _root_.id rfl
@[simp] theorem blk_exit {id j : Nat} {Q : Kx} {e : Env} {H : Heap} : blk id Q (.exit j) e H = if j = id then Q .normal e H else Q (.exit j) e H := _root_.id rfl
theorem blk_inB {id : Nat} {Q : Kx} : blk id Q = KExit.inB id Q := by funext x e H; cases x <;> rfl

def wpC (S : Sys) : KCode → Env → Heap → Kx → Prop
  | .skip, e, H, Q => Q .normal e H
  | .reg l, e, H, Q => wpS S l e H (Q .normal)
  | .seq a b, e, H, Q => wpC S a e H (sq (fun e' H' => wpC S b e' H' Q) Q)
  | .cond c a b, e, H, Q => cnd (e.ev c) (wpC S a e H) (wpC S b e H) Q
  | .block id c, e, H, Q => wpC S c e H (blk id Q)
  | .loop c, e, H, Q => Wc S (.loop c) e H Q
  | .exit id, e, H, Q => Q (.exit id) e H
  | .ret, e, H, Q => Q .ret e H
  | .nev, _, _, _ => False

theorem wpC_ok {S : Sys} : ∀ (c : KCode) (e : Env) (H : Heap) (Q : Kx), wpC S c e H Q → Wc S c e H Q := by
  intro c
  induction c with
  | skip => intro e H Q h; rw [Wc_skip]; exact h
  | nev => intro e H Q h; exact h.elim
  | exit id => intro e H Q h; rw [Wc_exit]; exact h
  | ret => intro e H Q h; rw [Wc_ret]; exact h
  | reg l => intro e H Q h; rw [Wc_reg]; exact wpS_ok l e H _ h
  | seq a b iha ihb =>
    intro e H Q h
    rw [Wc_seq]
    simp only [wpC] at h
    refine (iha _ _ _ h).mono ?_
    intro x e' H' hx
    cases x with
    | normal => exact ihb _ _ _ hx
    | exit id => exact hx
    | ret => exact hx
  | cond c a b iha ihb =>
    intro e H Q h
    rw [Wc_cond']
    simp only [wpC] at h
    revert h
    generalize e.ev c = v
    intro h
    cases v with
    | bool t => cases t
                · exact ihb _ _ _ h
                · exact iha _ _ _ h
    | _ => exact h.elim
  | block id c ih =>
    intro e H Q h
    rw [Wc_block, ← blk_inB]
    exact ih _ _ _ h
  | loop c ih => intro e H Q h; exact h

def jn (Q : Kx) (f : Kx → Prop) : Prop := f Q
@[simp] theorem jn_eq {Q : Kx} {f : Kx → Prop} : jn Q f = f Q := _root_.id rfl

def rt (x : Option Value) (R : Kv) (H : Heap) : Prop :=
  match x with
  | some v => R v H
  | none => False
@[simp] theorem rt_some {v : Value} {R : Kv} {H : Heap} : rt (some v) R H = R v H := _root_.id rfl
@[simp] theorem fin_rt {rs : List KRes} {R : Kv} {e : Env} {H : Heap} : fin rs R .ret e H = rt (kRes e H rs) R H := by unfold fin rt; rfl
@[simp] theorem fin_rn {rs : List KRes} {R : Kv} {e : Env} {H : Heap} : fin rs R .normal e H = rt (kRes e H rs) R H := by unfold fin rt; rfl
@[simp] theorem fin_re {rs : List KRes} {R : Kv} {e : Env} {H : Heap} {id : Nat} : fin rs R (.exit id) e H = False := _root_.id rfl

theorem Wf_sh {S : Sys} {f : FuncId} {k : KFunc} (hR : S.R f = none) (hF : S.F f = some k) {args : List Value} {H : Heap} {Q : Kv} (h : wpC S k.body args H (fin k.res Q)) : Wf S f args H Q :=
  Wf_fn hR hF (wpC_ok _ _ _ _ h)

/-- a loop, by what holds ahead of each round -/
theorem loop_inv {S : Sys} {c : KCode} {Q : Kx} (I : Nat → Env → Heap → Prop) (d : Nat) {e : Env} {H : Heap} (h0 : I d e H)
    (hround : ∀ d e H, I d e H → wpC S c e H (sq (fun e' H' => ∃ d', d' < d ∧ I d' e' H') Q)) : Wc S (.loop c) e H Q :=
  Wc_inv I (fun d e H h => by rw [← sq_go]; exact wpC_ok _ _ _ _ (hround d e H h)) d e H h0

theorem junk (n : Nat) (l : List Value) (h : l.length = n) : ∃ j : Nat → Value, l = (List.range n).map j := by
  refine ⟨fun i => l.getD i undef, ?_⟩
  subst h
  apply List.ext_getElem
  · simp
  · intro i h1 h2
    simp [List.getD_eq_getElem?_getD, h1]

end Go.Proofs.Ytccjanieihlpcaa.K
