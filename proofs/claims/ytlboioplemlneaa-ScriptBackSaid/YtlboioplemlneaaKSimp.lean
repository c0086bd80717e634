/- How the nested words are walked: rules for simp, which never look into what comes behind a step that is open. -/
import Derived.Test.YtlboioplemlneaaKSh
set_option linter.unusedVariables false
set_option linter.unusedSimpArgs false
namespace Go.Proofs.Ytlboioplemlneaa.K
open Go
section
variable {S : Sys} {e : Env} {H : Heap} {K : Kv}

@[congr] theorem run_congr {k k' : KOp} {H' : Heap} (h : k = k') (hH : H = H') : run S k e H K = run S k' e H' K := by rw [h, hH]
@[congr] theorem Wf_congr {f : FuncId} {a a' : List Value} {H' : Heap} (h : a = a') (hH : H = H') : Wf S f a H K = Wf S f a' H' K := by rw [h, hH]
@[congr] theorem sq_congr {R : Fe → Heap → Prop} {Q : Kx} {x x' : KExit} {e e' : Fe} {H' : Heap} (h : x = x') (he : e = e') (hH : H = H') : sq R Q x e H = sq R Q x' e' H' := by rw [h, he, hH]
@[congr] theorem blk_congr {id : Nat} {Q : Kx} {x x' : KExit} {e e' : Fe} {H' : Heap} (h : x = x') (he : e = e') (hH : H = H') : blk id Q x e H = blk id Q x' e' H' := by rw [h, he, hH]
@[congr] theorem jn_congr {Q : Kx} {f : Kx → Prop} : jn Q f = jn Q f := rfl
@[congr] theorem WL_congr {c : KCode} {e e' : Fe} {H' : Heap} {Q : Kx} (he : e = e') (hH : H = H') : WL S c e H Q = WL S c e' H' Q := by rw [he, hH]

def oV (x : Option Value) (H : Heap) (K : Kv) : Prop :=
  match x with
  | some v => K v H
  | none => False
@[simp] theorem oV_some {v : Value} : oV (some v) H K = K v H := _root_.id rfl
@[simp] theorem oV_none : oV none H K = False := _root_.id rfl
@[congr] theorem oV_congr {x y : Option Value} {H' : Heap} (h : x = y) (hH : H = H') : oV x H K = oV y H' K := by rw [h, hH]
theorem oT_map {x : Option Value} : oT (x.map (·, H)) K = oV x H K := by cases x <;> rfl

@[simp] theorem ev_c {v : Value} : Env.ev e (.c v) = v := _root_.id rfl

@[simp] theorem run_mv {x : Value} : run S (.mv (.c x)) e H K = K x H := _root_.id rfl
@[simp] theorem run_call {f : FuncId} {args : List Opd} : run S (.call f args) e H K = Wf S f (args.map e.ev) H K := _root_.id rfl
@[simp] theorem run_callp {f : FuncId} {args : List Opd} : run S (.callp f args) e H K = ((args.map e.ev).all gndV = true ∧ Wf S f (args.map e.ev) [] fun v _ => gndV v = true ∧ K v H) := _root_.id rfl
@[simp] theorem run_bin {o : BinOp} {x y : Value} : run S (.bin o (.c x) (.c y)) e H K = oV (kBin o x y) H K := oT_map
@[simp] theorem run_un {o : UnOp} {x : Value} : run S (.un o (.c x)) e H K = oV (kUn o x) H K := oT_map
@[simp] theorem run_mx {x : Value} {xs : List Opd} : run S (.mx (.c x) xs) e H K = oV (kMx x (xs.map e.ev)) H K := oT_map
@[simp] theorem run_mn {x : Value} {xs : List Opd} : run S (.mn (.c x) xs) e H K = oV (kMn x (xs.map e.ev)) H K := oT_map
@[simp] theorem run_pick_t {x : Value} {y : Opd} : run S (.pick (.c (.bool true)) (.c x) y) e H K = K x H := _root_.id rfl
@[simp] theorem run_pick_f {y : Value} {x : Opd} : run S (.pick (.c (.bool false)) x (.c y)) e H K = K y H := _root_.id rfl
@[simp] theorem run_pick_and {p q : Bool} : run S (.pick (.c (.bool p)) (.c (.bool q)) (.c (.bool false))) e H K = K (.bool (p && q)) H := by cases p <;> rfl
@[simp] theorem run_pick_or {p q : Bool} : run S (.pick (.c (.bool p)) (.c (.bool true)) (.c (.bool q))) e H K = K (.bool (p || q)) H := by cases p <;> rfl
theorem run_pick {p : Bool} {x y : Value} : run S (.pick (.c (.bool p)) (.c x) (.c y)) e H K = K (if p then x else y) H := rfl
@[simp] theorem run_alloc {t : TypeId} {z : List Value} : run S (.alloc t z) e H K = K (.pointer (some ⟨H.next, 0, none⟩)) (H.push (.cells z t true)) := _root_.id rfl
@[simp] theorem run_box {t : TypeId} {x : Value} : run S (.box t (.c x)) e H K = if isTup x then False else K (.pointer (some ⟨H.next, 0, none⟩)) (H.push (.cells (cellsL x) t true)) := by
  show oT (if isTup x = true then none else _) K = _
  split <;> rfl
@[simp] theorem run_ld {a : Value} : run S (.ld (.c a)) e H K = oV (kLd H a) H K := oT_map
@[simp] theorem run_ldn {n : Nat} {a : Value} : run S (.ldn n (.c a)) e H K = oV (kLdn H n a) H K := oT_map
def oH (x : Option Heap) (K : Kv) : Prop :=
  match x with
  | some H => K noV H
  | none => False
@[simp] theorem oH_some : oH (some H) K = K noV H := _root_.id rfl
@[simp] theorem oH_none : oH none K = False := _root_.id rfl
@[congr] theorem oH_congr {x y : Option Heap} (h : x = y) : oH x K = oH y K := by rw [h]
theorem oT_mapH {x : Option Heap} : oT (x.map (noV, ·)) K = oH x K := by cases x <;> rfl
@[simp] theorem run_st {a v : Value} : run S (.st (.c a) (.c v)) e H K = oH (kSt H a v) K := oT_mapH
@[simp] theorem run_stn {n : Nat} {a v : Value} : run S (.stn n (.c a) (.c v)) e H K = oH (kStn H n a v) K := oT_mapH
@[simp] theorem run_nck {a : Addr} : run S (.nck (.c (.pointer (some a)))) e H K = K (.pointer (some a)) H := _root_.id rfl
@[simp] theorem run_nckf {f : FuncId} {a b : Array Value} : run S (.nck (.c (.func (.func f) a b))) e H K = K (.func (.func f) a b) H := _root_.id rfl
@[simp] theorem run_cvt {k k' : IntKind} {n : Int} : run S (.cvt k (.c (.int k' n))) e H K = K (.int k (k.wrap n)) H := _root_.id rfl
@[simp] theorem run_eqv {k : EqK} {neg : Bool} {x y : Value} : run S (.eqv k neg (.c x) (.c y)) e H K = oV ((kEq k x y).map fun b => .bool (b != neg)) H K := by
  show oT ((kEq k x y).map _) K = _
  cases kEq k x y <;> rfl
@[simp] theorem run_lenL {a : Option Addr} {n c : Nat} : run S (.lenL (.c (.slice a n c))) e H K = K (.int .i64 n) H := _root_.id rfl
@[simp] theorem run_lenS {s : ByteArray} : run S (.lenS (.c (.string s))) e H K = K (.int .i64 s.size) H := _root_.id rfl
@[simp] theorem run_fad {a : Addr} {n : Nat} : run S (.fad n (.c (.pointer (some a)))) e H K = K (.pointer (some (addOff a n))) H := _root_.id rfl
@[simp] theorem run_fld {cs : Array Value} {n : Nat} : run S (.fld n (.c (.agg cs))) e H K = oV cs.toList[n]? H K := oT_map
@[simp] theorem run_iad {z : Nat} {a : Addr} {n c : Nat} {k : IntKind} {i : Int} : run S (.iad z (.c (.slice (some a) n c)) (.c (.int k i))) e H K = if 0 ≤ i ∧ i < n then K (.pointer (some (addOff a (i.toNat * z)))) H else False := by
  show oT (if _ then _ else _) K = _
  split <;> rfl
@[simp] theorem run_idS {s : ByteArray} {k : IntKind} {i : Int} : run S (.idS (.c (.string s)) (.c (.int k i))) e H K = oV (if 0 ≤ i then (s.data.toList[i.toNat]?).map fun b => .int .u8 b.toNat else none) H K := by
  show oT (if _ then _ else _) K = _
  split
  · cases s.data.toList[i.toNat]? <;> rfl
  · rfl
@[simp] theorem run_xt {vs : Array Value} {n : Nat} : run S (.xt (.c (.tuple vs)) n) e H K = oV vs.toList[n]? H K := oT_map
@[simp] theorem run_mks {t : TypeId} {z : List Value} {b : Nat} {l c : Value} : run S (.mks t z b (.c l) (.c c)) e H K = oT (kMks H t z b l c) K := _root_.id rfl
@[simp] theorem run_app {t : TypeId} {z b : Nat} {x : Value} {a : Option Addr} {m c : Nat} : run S (.app t z b (.c x) (.c (.slice a m c))) e H K = oT ((kRow H t z m a).bind fun news => kApp H t z b x m news) K := _root_.id rfl
@[simp] theorem run_appS {t : TypeId} {x : Value} {s : ByteArray} : run S (.appS t (.c x) (.c (.string s))) e H K = oT (kApp H t 1 1 x s.size (byteVals s)) K := _root_.id rfl

variable {k : IntKind} {a b : Int}
@[simp] theorem kb_add : kBin .add (.int k a) (.int k b) = some (.int k (k.wrap (a + b))) := by simp [kBin, kInt]
@[simp] theorem kb_sub : kBin .sub (.int k a) (.int k b) = some (.int k (k.wrap (a - b))) := by simp [kBin, kInt]
@[simp] theorem kb_mul : kBin .mul (.int k a) (.int k b) = some (.int k (k.wrap (a * b))) := by simp [kBin, kInt]
@[simp] theorem kb_quo : kBin .quo (.int k a) (.int k b) = if b = 0 then none else some (.int k (k.wrap (a.tdiv b))) := by simp [kBin, kInt]
@[simp] theorem kb_rem : kBin .rem (.int k a) (.int k b) = if b = 0 then none else some (.int k (a.tmod b)) := by simp [kBin, kInt]
@[simp] theorem kb_eql : kBin .eql (.int k a) (.int k b) = some (.bool (decide (a = b))) := by
  simp only [kBin, kInt, if_true]; congr 2
@[simp] theorem kb_neq : kBin .neq (.int k a) (.int k b) = some (.bool (!decide (a = b))) := by
  simp only [kBin, kInt, if_true]; congr 2
@[simp] theorem kb_lss : kBin .lss (.int k a) (.int k b) = some (.bool (decide (a < b))) := by simp [kBin, kInt]
@[simp] theorem kb_leq : kBin .leq (.int k a) (.int k b) = some (.bool (decide (a ≤ b))) := by simp [kBin, kInt]
@[simp] theorem kb_gtr : kBin .gtr (.int k a) (.int k b) = some (.bool (decide (b < a))) := by simp [kBin, kInt]
@[simp] theorem kb_geq : kBin .geq (.int k a) (.int k b) = some (.bool (decide (b ≤ a))) := by simp [kBin, kInt]
@[simp] theorem kb_seq {x y : ByteArray} : kBin .eql (.string x) (.string y) = some (.bool (x.toList == y.toList)) := _root_.id rfl
@[simp] theorem ku_not {b : Bool} : kUn .not (.bool b) = some (.bool !b) := _root_.id rfl
@[simp] theorem ku_neg : kUn .neg (.int k a) = some (.int k (k.wrap (0 - a))) := _root_.id rfl
@[simp] theorem kMx_1 : kMx (.int k a) [] = some (.int k a) := _root_.id rfl
@[simp] theorem kMx_2 {k' : IntKind} {l : List Value} : kMx (.int k a) (.int k' b :: l) = kMx (.int k (max a b)) l := by
  have : (if b > a then b else a) = max a b := by split <;> omega
  simp only [kMx, this]
@[simp] theorem kMn_1 : kMn (.int k a) [] = some (.int k a) := _root_.id rfl
@[simp] theorem kMn_2 {k' : IntKind} {l : List Value} : kMn (.int k a) (.int k' b :: l) = kMn (.int k (min a b)) l := by
  have : (if b < a then b else a) = min a b := by split <;> omega
  simp only [kMn, this]
@[simp] theorem tup_1 {v : Value} : tup [v] = v := _root_.id rfl
variable {fe : Fe}
@[simp] theorem fRes_0 : fResL fe H [] = some [] := _root_.id rfl
@[simp] theorem fRes_t {n : Nat} {rs : List KRes} : fResL fe H (.t n :: rs) = (fResL fe H rs).map (fe n :: ·) := _root_.id rfl
@[simp] theorem fRes_1 {n : Nat} {rs : List KRes} : fResL fe H (.c1 n :: rs) = (kLd H (fe n)).bind fun v => (fResL fe H rs).map (v :: ·) := _root_.id rfl
@[simp] theorem fRes_n {a n : Nat} {rs : List KRes} : fResL fe H (.cn a n :: rs) = (kLdn H n (fe a)).bind fun v => (fResL fe H rs).map (v :: ·) := _root_.id rfl
@[simp] theorem upd_i {n i : Nat} {v : Value} : upd fe n v i = if i = n then v else fe i := upd_eq _ _ _ _
@[simp] theorem next_push {b : Blk} : (H.push b).next = H.next + 1 := by simp [Heap.next, Heap.push]
@[simp] theorem get_push {b : Blk} {n : Nat} : (H.push b).get n = if n < H.next then H.get n else if n = H.next then b else .dead := by
  unfold Heap.push Heap.next
  induction H generalizing n with
  | nil => cases n <;> simp [Heap.get]
  | cons x H ih =>
    cases n with
    | zero => simp [Heap.get]
    | succ n => simp [Heap.get, ih]
@[simp] theorem kLd_p {a : Addr} : kLd H (.pointer (some a)) = match H.get a.block with
    | .cells c _ _ => c[a.off]?
    | _ => none := _root_.id rfl
@[simp] theorem run_build {z : List Value} {ps : List (Nat × Nat × Opd)} : run S (.build z ps) e H K = oV ((kFill z (evPs e ps)).map fun c => .agg c.toArray) H K := by
  show oT ((kFill z (evPs e ps)).map _) K = _
  cases kFill z (evPs e ps) <;> rfl
@[simp] theorem run_bsl {t : TypeId} {n : Nat} {z : List Value} {ps : List (Nat × Nat × Opd)} : run S (.bsl t n z ps) e H K = oT ((kFill z (evPs e ps)).map fun c => (.slice (some ⟨H.next, 0, none⟩) n n, H.push (.cells c t true))) K := _root_.id rfl
@[simp] theorem run_iada {n z : Nat} {a : Addr} {k : IntKind} {i : Int} : run S (.iada n z (.c (.pointer (some a))) (.c (.int k i))) e H K = if 0 ≤ i ∧ i < n then K (.pointer (some (addOff a (i.toNat * z)))) H else False := by
  show oT (if _ then _ else _) K = _
  split <;> rfl
@[simp] theorem run_mkf {f : Fn} {first cap : List Opd} : run S (.mkf f first cap) e H K = K (.func f (first.map e.ev).toArray (cap.map e.ev).toArray) H := _root_.id rfl
@[simp] theorem run_callv {f : FuncId} {first cap : Array Value} {args : List Opd} : run S (.callv (.c (.func (.func f) first cap)) args) e H K = Wf S f (first.toList ++ args.map e.ev ++ cap.toList) H K := _root_.id rfl
@[simp] theorem get_0 {x : Value} {e : Env} : Env.get (x :: e) 0 = x := _root_.id rfl
@[simp] theorem get_s {x : Value} {e : Env} {n : Nat} : Env.get (x :: e) (n + 1) = Env.get e n := _root_.id rfl
@[simp] theorem set_0 {x v : Value} {e : Env} : Env.set (x :: e) 0 v = v :: e := _root_.id rfl
@[simp] theorem set_s {x v : Value} {e : Env} {n : Nat} : Env.set (x :: e) (n + 1) v = x :: Env.set e n v := _root_.id rfl
@[simp] theorem set_n0 {v : Value} : Env.set [] 0 v = [v] := _root_.id rfl
@[simp] theorem set_ns {v : Value} {n : Nat} : Env.set [] (n + 1) v = undef :: Env.set [] n v := _root_.id rfl
@[simp] theorem get_n {n : Nat} : Env.get [] n = undef := _root_.id rfl
@[simp] theorem run_mkm : run S .mkm [] H K = K (.map (some H.next)) (H.push (.map [] 0)) := _root_.id rfl
theorem next_put {n : Nat} {b : Blk} : (H.put n b).next = H.next := by
  unfold Heap.next
  induction H generalizing n with
  | nil => rfl
  | cons x H ih => cases n with
    | zero => rfl
    | succ n => simp only [Heap.put, List.length_cons, ih]
/-- a block that is written: the last one, or one ahead of it -/
theorem put_push {x y : Blk} {n : Nat} : (H.push x).put n y = if n = H.next then H.push y else (H.put n y).push x := by
  unfold Heap.push Heap.next
  induction H generalizing n with
  | nil => cases n with
    | zero => rfl
    | succ n => simp [Heap.put]
  | cons z H ih =>
    cases n with
    | zero => simp [Heap.put]
    | succ n =>
      simp only [List.cons_append, Heap.put, ih, List.length_cons, Nat.add_right_cancel_iff]
      split <;> rfl
@[simp] theorem run_mup {kk : EqK} {m k v : Value} : run S (.mup kk (.c m) (.c k) (.c v)) [] H K = oH (kMup H kk m k v) K := oT_mapH
@[simp] theorem run_fldn {cs : Array Value} {o n : Nat} : run S (.fldn o n (.c (.agg cs))) [] H K = oV ((rd cs.toList o n).map fun l => .agg l.toArray) H K := by
  show oT ((rd cs.toList o n).map _) K = _
  cases rd cs.toList o n <;> rfl
end
end Go.Proofs.Ytlboioplemlneaa.K
