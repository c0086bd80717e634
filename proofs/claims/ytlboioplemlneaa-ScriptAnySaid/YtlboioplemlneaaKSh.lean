/- Words that unfold by definition alone: what a code of K does, told with the rest as a function, so that printed texts are held against the code by the kernel. -/
import Derived.Test.YtlboioplemlneaaKTop
set_option linter.unusedVariables false
set_option linter.unusedSimpArgs false
namespace Go.Proofs.Ytlboioplemlneaa.K
open Go

abbrev Kv := Value → Heap → Prop
/-- slots, by their looks -/
abbrev Fe := Nat → Value
abbrev Kx := KExit → Fe → Heap → Prop
def upd (e : Fe) (n : Nat) (v : Value) : Fe := fun i => bif Nat.beq i n then v else e i

def oT : Option (Value × Heap) → Kv → Prop
  | some p, K => K p.1 p.2
  | none, _ => False
@[simp] theorem oT_some {v : Value} {H : Heap} {K : Kv} : oT (some (v, H)) K = K v H := _root_.id rfl
@[simp] theorem oT_none {K : Kv} : oT none K = False := _root_.id rfl
theorem oT_iff {x : Option (Value × Heap)} {K : Kv} : oT x K = oThen x K := by
  cases x with
  | none => simp
  | some p => obtain ⟨v, H⟩ := p; simp
@[congr] theorem oT_congr {x y : Option (Value × Heap)} {K : Kv} (h : x = y) : oT x K = oT y K := by rw [h]

/-- one operation -/
def run (S : Sys) (k : KOp) (e : Env) (H : Heap) (K : Kv) : Prop :=
  match k with
  | .mv x => K (e.ev x) H
  | .call f args => Wf S f (args.map e.ev) H K
  | .callp f args => (args.map e.ev).all gndV = true ∧ Wf S f (args.map e.ev) [] fun v _ => gndV v = true ∧ K v H
  | .callv f args => match e.ev f with
    | .func (.func f) first cap => Wf S f (first.toList ++ args.map e.ev ++ cap.toList) H K
    | _ => False
  | .inv r name args => match e.ev r with
    | .iface t v => match S.M t name with
      | some (f, rk) => match recvOf H v rk with
        | some x => Wf S f (x :: args.map e.ev) H K
        | none => False
      | none => False
    | _ => False
  | k => oT (kop k e H) K

theorem run_iff {S : Sys} {k : KOp} {e : Env} {H : Heap} {K : Kv} : run S k e H K = stepThen S k e H K := by
  cases k <;> first
    | rfl
    | (simp only [run, stepThen, oT_iff] <;> done)
    | (simp [run, stepThen, kop] <;> done)
    | (simp only [run, stepThen]; rename_i f _; cases e.ev f <;> first | rfl | (rename_i fn _ _; cases fn <;> rfl))
    | (simp only [run, stepThen]; rename_i r _ _; cases e.ev r <;> rfl)

def wantsV (v : Value) (w : Bool) : Bool :=
  match v with
  | .bool b => b == w
  | _ => false
@[simp] theorem wantsV_bool {b w : Bool} : wantsV (.bool b) w = (b == w) := _root_.id rfl
@[simp] theorem wantsV_undef {w : Bool} : wantsV undef w = false := _root_.id rfl

def gd (g : Value) (w : Bool) (x : Kv → Prop) (H : Heap) (K : Kv) : Prop := if wantsV g w = true then x K else K undef H
@[congr] theorem gd_congr {g g' : Value} {w : Bool} {x : Kv → Prop} {H : Heap} {K : Kv} (h : g = g') : gd g w x H K = gd g' w x H K := by rw [h]
@[simp] theorem gd_tt {x : Kv → Prop} {H : Heap} {K : Kv} : gd (.bool true) true x H K = x K := _root_.id rfl
@[simp] theorem gd_ft {x : Kv → Prop} {H : Heap} {K : Kv} : gd (.bool false) true x H K = K undef H := _root_.id rfl
@[simp] theorem gd_tf {x : Kv → Prop} {H : Heap} {K : Kv} : gd (.bool true) false x H K = K undef H := _root_.id rfl
@[simp] theorem gd_ff {x : Kv → Prop} {H : Heap} {K : Kv} : gd (.bool false) false x H K = x K := _root_.id rfl
@[simp] theorem gd_un {w : Bool} {x : Kv → Prop} {H : Heap} {K : Kv} : gd undef w x H K = K undef H := _root_.id rfl
theorem gd_split {b w : Bool} {x : Kv → Prop} {H : Heap} {K : Kv} (h1 : b = w → x K) (h2 : b ≠ w → K undef H) : gd (.bool b) w x H K := by
  unfold gd
  cases b <;> cases w <;> simp at * <;> assumption

def ck (x : Option (Value × Heap)) (v : Value) (P : Prop) : Prop := oT x fun v' _ => veq v' v = true ∧ P
def cg (g : Value) (w : Bool) (x : Option (Value × Heap)) (v : Value) (P : Prop) : Prop := (wantsV g w = true → oT x fun v' _ => veq v' v = true) ∧ P

def subO (e : Fe) : Opd → Opd
  | .t n => .c (e n)
  | .c v => .c v
/-- an operation with its operands looked up -/
def sub (e : Fe) : KOp → KOp
  | .mv x => .mv (subO e x)
  | .pick c a b => .pick (subO e c) (subO e a) (subO e b)
  | .alloc t z => .alloc t z
  | .box t x => .box t (subO e x)
  | .build z ps => .build z (ps.map fun p => (p.1, p.2.1, subO e p.2.2))
  | .bsl t len z ps => .bsl t len z (ps.map fun p => (p.1, p.2.1, subO e p.2.2))
  | .ld a => .ld (subO e a)
  | .ldn n a => .ldn n (subO e a)
  | .st a v => .st (subO e a) (subO e v)
  | .stn n a v => .stn n (subO e a) (subO e v)
  | .nck x => .nck (subO e x)
  | .bin o x y => .bin o (subO e x) (subO e y)
  | .eqv k neg x y => .eqv k neg (subO e x) (subO e y)
  | .un o x => .un o (subO e x)
  | .cvt k x => .cvt k (subO e x)
  | .s2b t x => .s2b t (subO e x)
  | .b2s t x => .b2s t (subO e x)
  | .mki t x => .mki t (subO e x)
  | .mkf f first cap => .mkf f (first.map (subO e)) (cap.map (subO e))
  | .mkm => .mkm
  | .mks t z bytes l c => .mks t z bytes (subO e l) (subO e c)
  | .slS x lo hi => .slS (subO e x) (lo.map (subO e)) (hi.map (subO e))
  | .slc t esz x lo hi => .slc t esz (subO e x) (lo.map (subO e)) (hi.map (subO e))
  | .fad off x => .fad off (subO e x)
  | .fld off x => .fld off (subO e x)
  | .fldn off n x => .fldn off n (subO e x)
  | .iad esz x i => .iad esz (subO e x) (subO e i)
  | .iada len esz x i => .iada len esz (subO e x) (subO e i)
  | .idS x i => .idS (subO e x) (subO e i)
  | .ida len x i => .ida len (subO e x) (subO e i)
  | .idan len esz x i => .idan len esz (subO e x) (subO e i)
  | .xt x i => .xt (subO e x) i
  | .lenS x => .lenS (subO e x)
  | .lenL x => .lenL (subO e x)
  | .lenM x => .lenM (subO e x)
  | .mx x xs => .mx (subO e x) (xs.map (subO e))
  | .mn x xs => .mn (subO e x) (xs.map (subO e))
  | .app t esz bytes x y => .app t esz bytes (subO e x) (subO e y)
  | .appS t x y => .appS t (subO e x) (subO e y)
  | .cpy t esz x y => .cpy t esz (subO e x) (subO e y)
  | .del kk m k => .del kk (subO e m) (subO e k)
  | .lkp kk z ok m k => .lkp kk z ok (subO e m) (subO e k)
  | .mup kk m k v => .mup kk (subO e m) (subO e k) (subO e v)
  | .men kk z m k => .men kk z (subO e m) (subO e k)
  | .mes m s v => .mes (subO e m) (subO e s) (subO e v)
  | .tas t z ok x => .tas t z ok (subO e x)
  | .call f args => .call f (args.map (subO e))
  | .callp f args => .callp f (args.map (subO e))
  | .callv f args => .callv (subO e f) (args.map (subO e))
  | .inv r name args => .inv (subO e r) name (args.map (subO e))
  | .nev => .nev

theorem get_set (e : Env) (n : Nat) (v : Value) (i : Nat) : (e.set n v).get i = if i = n then v else e.get i := by
  induction n generalizing e i with
  | zero =>
    cases e with
    | nil => cases i <;> simp [Env.set, Env.get]
    | cons x e => cases i <;> simp [Env.set, Env.get]
  | succ n ih =>
    cases e with
    | nil =>
      cases i with
      | zero => simp [Env.set, Env.get]
      | succ i => simp [Env.set, Env.get, ih]
    | cons x e =>
      cases i with
      | zero => simp [Env.set, Env.get]
      | succ i => simp [Env.set, Env.get, ih]
theorem upd_eq (e : Fe) (n : Nat) (v : Value) (i : Nat) : upd e n v i = if i = n then v else e i := by
  unfold upd
  cases h : Nat.beq i n with
  | true => rw [if_pos (Nat.eq_of_beq_eq_true h)]; rfl
  | false => rw [if_neg (Nat.ne_of_beq_eq_false h)]; rfl
theorem set_upd (e : Env) (n : Nat) (v : Value) : (e.set n v).get = upd e.get n v := by
  funext i; rw [get_set, upd_eq]
def updO (e : Fe) : Option Nat → Value → Fe
  | none, _ => e
  | some d, v => upd e d v
theorem setO_upd (e : Env) (d : Option Nat) (v : Value) : (setO e d v).get = updO e.get d v := by
  cases d with
  | none => rfl
  | some d => exact set_upd e d v

theorem ev_sub (e : Env) (o : Opd) : Env.ev [] (subO e.get o) = e.ev o := by cases o <;> rfl
theorem ev_subs (e : Env) (l : List Opd) : (l.map (subO e.get)).map (Env.ev []) = l.map e.ev := by
  rw [List.map_map]; congr 1; funext o; exact ev_sub e o
theorem ev_subps (e : Env) (l : List (Nat × Nat × Opd)) : evPs [] (l.map fun p => (p.1, p.2.1, subO e.get p.2.2)) = evPs e l := by
  simp only [evPs, List.map_map]; congr 1; funext p; simp only [Function.comp, ev_sub]
theorem evI_sub (e : Env) (d : Int) (o : Option Opd) : evI [] d (o.map (subO e.get)) = evI e d o := by
  cases o with
  | none => rfl
  | some o => simp only [Option.map_some, evI, ev_sub]
theorem evI_sub' (e : Env) (d : Int) (o : Opd) : evI [] d (some (subO e.get o)) = evI e d (some o) := evI_sub e d (some o)
theorem kop_sub (k : KOp) (e : Env) (H : Heap) : kop (sub e.get k) [] H = kop k e H := by
  cases k <;> simp only [sub, kop, ev_sub, ev_subs, ev_subps, evI_sub]
  case slc t z x lo hi => cases hi <;> simp only [Option.map_none, Option.map_some, evI_sub']
theorem step_sub {S : Sys} (k : KOp) (e : Env) (H : Heap) (K : Kv) : stepThen S (sub e.get k) [] H K = stepThen S k e H K := by
  cases k <;> first
    | (simp only [sub, stepThen, ev_sub, ev_subs]; done)
    | exact congrArg (oThen · K) (kop_sub _ e H)

/-- is it but a name more? (Such a step is passed over ahead of all else: else the kernel would hold texts against each other twice at each step behind it.) -/
def mvOf : KOp → Option Opd
  | .mv x => some x
  | _ => none
theorem mvOf_some {k : KOp} {x : Opd} (h : mvOf k = some x) : k = .mv x := by
  cases k <;> simp [mvOf] at h
  rw [h]
def wpS (S : Sys) : List KStep → Fe → Heap → (Fe → Heap → Prop) → Prop
  | [], e, H, Q => Q e H
  | .op d none k :: l, e, H, Q => match mvOf k with
    | some x => wpS S l (updO e d (Env.ev [] (subO e x))) H Q
    | none => run S (sub e k) [] H fun v H' => wpS S l (updO e d v) H' Q
  | .op d (some (s, w)) k :: l, e, H, Q => gd (e s) w (run S (sub e k) [] H) H fun v H' => wpS S l (updO e d v) H' Q
  | .chk d none k :: l, e, H, Q => ck (kop (sub e k) [] H) (e d) (wpS S l e H Q)
  | .chk d (some (s, w)) k :: l, e, H, Q => cg (e s) w (kop (sub e k) [] H) (e d) (wpS S l e H Q)

theorem stepThen_mono {S : Sys} {k : KOp} {e : Env} {H : Heap} {K K' : Kv} (h : ∀ v H, K v H → K' v H) (x : stepThen S k e H K) : stepThen S k e H K' := by
  rw [stepThen_iff] at x ⊢
  obtain ⟨n, v, H', hx, hk⟩ := x
  exact ⟨n, v, H', hx, h _ _ hk⟩

theorem wpS_ok {S : Sys} : ∀ (l : List KStep) (e : Env) (H : Heap) (Q : Fe → Heap → Prop), wpS S l e.get H Q → Ws S l e H fun e' H' => Q e'.get H'
  | [], e, H, Q => fun h => by rw [Ws_nil]; exact h
  | .op d none k :: l, e, H, Q => fun h => by
    rw [Ws_op]; simp only [wants, if_true]
    simp only [wpS] at h
    split at h
    · rename_i x hx
      rw [mvOf_some hx]
      show oThen (some (e.ev x, H)) _
      rw [oThen_some]
      rw [ev_sub] at h
      exact wpS_ok l _ _ Q (by rw [setO_upd]; exact h)
    · simp only [run_iff, step_sub] at h
      exact stepThen_mono (fun v H' hv => wpS_ok l _ _ Q (by rw [setO_upd]; exact hv)) h
  | .op d (some (s, w)) k :: l, e, H, Q => fun h => by
    rw [Ws_op]
    have hw : wants e (some (s, w)) = wantsV (e.get s) w := by simp only [wants, wantsV]; cases e.get s <;> rfl
    rw [hw]
    simp only [wpS, gd, run_iff, step_sub] at h
    split
    · rename_i hb
      rw [if_pos hb] at h
      exact stepThen_mono (fun v H' hv => wpS_ok l _ _ Q (by rw [setO_upd]; exact hv)) h
    · rename_i hb
      rw [if_neg hb] at h
      exact wpS_ok l _ _ Q (by rw [setO_upd]; exact h)
  | .chk d none k :: l, e, H, Q => fun h => by
    rw [Ws_chk]; simp only [wants, if_true]
    simp only [wpS, ck, oT_iff, kop_sub] at h
    obtain ⟨v, H', h1, h2, h3⟩ := h
    exact ⟨v, H', h1, h2, wpS_ok l _ _ Q h3⟩
  | .chk d (some (s, w)) k :: l, e, H, Q => fun h => by
    rw [Ws_chk]
    have hw : wants e (some (s, w)) = wantsV (e.get s) w := by simp only [wants, wantsV]; cases e.get s <;> rfl
    rw [hw]
    simp only [wpS, cg, oT_iff, kop_sub] at h
    split
    · rename_i hb
      obtain ⟨v, H', h1, h2⟩ := h.1 hb
      exact ⟨v, H', h1, h2, wpS_ok l _ _ Q h.2⟩
    · exact wpS_ok l _ _ Q h.2

def cnd (v : Value) (A B : Kx → Prop) (Q : Kx) : Prop :=
  match v with
  | .bool true => A Q
  | .bool false => B Q
  | _ => False
@[congr] theorem cnd_congr {g g' : Value} {A B : Kx → Prop} {Q : Kx} (h : g = g') : cnd g A B Q = cnd g' A B Q := by rw [h]
@[simp] theorem cnd_true {A B : Kx → Prop} {Q : Kx} : cnd (.bool true) A B Q = A Q := _root_.id rfl
@[simp] theorem cnd_false {A B : Kx → Prop} {Q : Kx} : cnd (.bool false) A B Q = B Q := _root_.id rfl
theorem cnd_split {b : Bool} {A B : Kx → Prop} {Q : Kx} (h1 : b = true → A Q) (h2 : b = false → B Q) : cnd (.bool b) A B Q := by
  cases b
  · exact h2 rfl
  · exact h1 rfl

/-- the rest behind a code -/
def sq (R : Fe → Heap → Prop) (Q : Kx) : Kx
  | .normal, e, H => R e H
  | x, e, H => Q x e H
@[simp] theorem sq_normal {R : Fe → Heap → Prop} {Q : Kx} {e : Fe} {H : Heap} : sq R Q .normal e H = R e H := _root_.id rfl
@[simp] theorem sq_exit {R : Fe → Heap → Prop} {Q : Kx} {id : Nat} {e : Fe} {H : Heap} : sq R Q (.exit id) e H = Q (.exit id) e H := _root_.id rfl
@[simp] theorem sq_ret {R : Fe → Heap → Prop} {Q : Kx} {e : Fe} {H : Heap} : sq R Q .ret e H = Q .ret e H := _root_.id rfl
def blk (id : Nat) (Q : Kx) : Kx
  | .exit j, e, H => if j = id then Q .normal e H else Q (.exit j) e H
  | x, e, H => Q x e H
@[simp] theorem blk_normal {id : Nat} {Q : Kx} {e : Fe} {H : Heap} : blk id Q .normal e H = Q .normal e H := _root_.id rfl
@[simp] theorem blk_ret {id : Nat} {Q : Kx} {e : Fe} {H : Heap} : blk id Q .ret e H = Q .ret e H := _root_.id rfl
@[simp] theorem blk_exit {id j : Nat} {Q : Kx} {e : Fe} {H : Heap} : blk id Q (.exit j) e H = if j = id then Q .normal e H else Q (.exit j) e H := _root_.id rfl

/-- a code, told of looks -/
def onE (Q : Kx) : KExit → Env → Heap → Prop := fun x e H => Q x e.get H
def WL (S : Sys) (c : KCode) (e : Fe) (H : Heap) (Q : Kx) : Prop := ∀ e0 : Env, e0.get = e → Wc S (.loop c) e0 H (onE Q)

def wpC (S : Sys) : KCode → Fe → Heap → Kx → Prop
  | .skip, e, H, Q => Q .normal e H
  | .reg l, e, H, Q => wpS S l e H (Q .normal)
  | .seq a b, e, H, Q => wpC S a e H (sq (fun e' H' => wpC S b e' H' Q) Q)
  | .cond c a b, e, H, Q => cnd (Env.ev [] (subO e c)) (wpC S a e H) (wpC S b e H) Q
  | .block id c, e, H, Q => wpC S c e H (blk id Q)
  | .loop c, e, H, Q => WL S c e H Q
  | .exit id, e, H, Q => Q (.exit id) e H
  | .ret, e, H, Q => Q .ret e H
  | .nev, _, _, _ => False

theorem wpC_ok {S : Sys} : ∀ (c : KCode) (e : Env) (H : Heap) (Q : Kx), wpC S c e.get H Q → Wc S c e H (onE Q) := by
  intro c
  induction c with
  | skip => intro e H Q h; rw [Wc_skip]; exact h
  | nev => intro e H Q h; exact h.elim
  | exit id => intro e H Q h; rw [Wc_exit]; exact h
  | ret => intro e H Q h; rw [Wc_ret]; exact h
  | reg l => intro e H Q h; rw [Wc_reg]; exact wpS_ok l e H _ h
  | seq a b iha ihb =>
    intro e H Q h
    rw [Wc_seq]
    simp only [wpC] at h
    refine (iha _ _ _ h).mono ?_
    intro x e' H' hx
    cases x with
    | normal => exact ihb _ _ _ hx
    | exit id => exact hx
    | ret => exact hx
  | cond c a b iha ihb =>
    intro e H Q h
    rw [Wc_cond']
    simp only [wpC, ev_sub] at h
    revert h
    generalize e.ev c = v
    intro h
    cases v with
    | bool t => cases t
                · exact ihb _ _ _ h
                · exact iha _ _ _ h
    | _ => exact h.elim
  | block id c ih =>
    intro e H Q h
    rw [Wc_block]
    refine (ih _ _ _ h).mono ?_
    intro x e' H' hx
    cases x with
    | normal => exact hx
    | ret => exact hx
    | exit j => exact hx
  | loop c ih => intro e H Q h; exact h e rfl

def jn (Q : Kx) (f : Kx → Prop) : Prop := f Q
@[simp] theorem jn_eq {Q : Kx} {f : Kx → Prop} : jn Q f = f Q := _root_.id rfl

/-- a function's end -/
def rt (x : Option Value) (R : Kv) (H : Heap) : Prop :=
  match x with
  | some v => R v H
  | none => False
@[simp] theorem rt_some {v : Value} {R : Kv} {H : Heap} : rt (some v) R H = R v H := _root_.id rfl
def fRes1 (e : Fe) (H : Heap) : KRes → Option Value
  | .t n => some (e n)
  | .c1 a => kLd H (e a)
  | .cn a n => kLdn H n (e a)
def fResL (e : Fe) (H : Heap) : List KRes → Option (List Value)
  | [] => some []
  | r :: rs => (fRes1 e H r).bind fun v => (fResL e H rs).map (v :: ·)
theorem fRes_eq (e : Env) (H : Heap) : ∀ rs, fResL e.get H rs = kResL e H rs
  | [] => rfl
  | r :: rs => by simp only [fResL, kResL, fRes_eq e H rs]; cases r <;> rfl
def fn (rs : List KRes) (R : Kv) : Kx
  | .exit _, _, _ => False
  | _, e, H => rt ((fResL e H rs).map tup) R H
@[simp] theorem fn_n {rs : List KRes} {R : Kv} {e : Fe} {H : Heap} : fn rs R .normal e H = rt ((fResL e H rs).map tup) R H := _root_.id rfl
@[simp] theorem fn_r {rs : List KRes} {R : Kv} {e : Fe} {H : Heap} : fn rs R .ret e H = rt ((fResL e H rs).map tup) R H := _root_.id rfl
@[simp] theorem fn_e {rs : List KRes} {R : Kv} {e : Fe} {H : Heap} {id : Nat} : fn rs R (.exit id) e H = False := _root_.id rfl

/-- a function, by its words -/
theorem Wf_sh {S : Sys} {f : FuncId} {k : KFunc} (hR : S.R f = none) (hF : S.F f = some k) {args : List Value} {H : Heap} {R : Kv} (h : wpC S k.body (Env.get args) H (fn k.res R)) : Wf S f args H R := by
  refine Wf_fn hR hF ((wpC_ok _ _ _ _ h).mono ?_)
  intro x e H hx
  cases x with
  | exit id => exact hx
  | normal =>
    simp only [onE, fn_n, fRes_eq] at hx
    rw [show fin k.res R .normal e H = rt (kRes e H k.res) R H from by unfold fin rt; rfl]
    exact hx
  | ret =>
    simp only [onE, fn_r, fRes_eq] at hx
    rw [show fin k.res R .ret e H = rt (kRes e H k.res) R H from by unfold fin rt; rfl]
    exact hx

/-- a loop, by what holds ahead of each round -/
theorem WL_inv {S : Sys} {c : KCode} {Q : Kx} (I : Nat → Fe → Heap → Prop) (d : Nat) {e : Fe} {H : Heap} (h0 : I d e H)
    (hround : ∀ d e H, I d e H → wpC S c e H (sq (fun e' H' => ∃ d', d' < d ∧ I d' e' H') Q)) : WL S c e H Q := by
  rintro e0 rfl
  refine Wc_inv (fun d e H => I d e.get H) (fun d e H h => ?_) d e0 H h0
  refine (wpC_ok _ _ _ _ (hround d _ H h)).mono ?_
  intro x e' H' hx
  cases x with
  | normal => exact hx
  | exit id => exact hx
  | ret => exact hx
/-- one round by hand -/
theorem WL_once {S : Sys} {c : KCode} {Q : Kx} {e : Fe} {H : Heap} (h : wpC S c e H (sq (fun e' H' => WL S c e' H' Q) Q)) : WL S c e H Q := by
  rintro e0 rfl
  refine Wc_loop ((wpC_ok _ _ _ _ h).mono ?_)
  intro x e' H' hx
  cases x with
  | normal => exact hx e' rfl
  | exit id => exact hx
  | ret => exact hx
end Go.Proofs.Ytlboioplemlneaa.K
