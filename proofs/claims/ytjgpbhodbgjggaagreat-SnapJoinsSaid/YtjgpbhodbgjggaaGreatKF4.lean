/- An evaluator for the kernel: slots and blocks in trees. What it gives, K's evaluator gives. -/
import Derived.Test.YtjgpbhodbgjggaaGreatKF3
set_option linter.unusedVariables false
set_option linter.unusedSimpArgs false
set_option maxHeartbeats 2000000
namespace Go.Proofs.YtjgpbhodbgjggaaGreat.K
open Go
/-- a tree of places: its own, those that are odd, those that are even -/
inductive BT (α : Type) where
  | nil
  | node (x : α) (l r : BT α)
namespace BT
variable {α : Type}
def get (d : α) : BT α → Nat → α
  | nil, _ => d
  | node x l r, n => cond (Nat.beq n 0) x (cond (Nat.beq (n % 2) 1) (get d l (n / 2)) (get d r (n / 2 - 1)))
def set (d : α) : Nat → BT α → Nat → α → BT α
  | 0, t, _, _ => t
  | f + 1, nil, n, v => cond (Nat.beq n 0) (node v nil nil) (cond (Nat.beq (n % 2) 1) (node d (set d f nil (n / 2) v) nil) (node d nil (set d f nil (n / 2 - 1) v)))
  | f + 1, node x l r, n, v => cond (Nat.beq n 0) (node v l r) (cond (Nat.beq (n % 2) 1) (node x (set d f l (n / 2) v) r) (node x l (set d f r (n / 2 - 1) v)))
theorem beq_if {β : Type} (n m : Nat) (a b : β) : cond (Nat.beq n m) a b = if n = m then a else b := by
  by_cases h : n = m
  · subst h; simp [Nat.beq_refl]
  · rw [if_neg h]
    have : Nat.beq n m = false := by
      cases h1 : Nat.beq n m with
      | true => exact absurd (Nat.eq_of_beq_eq_true h1) h
      | false => rfl
    rw [this]; rfl
theorem get_set (d : α) : ∀ (f : Nat) (t : BT α) (n m : Nat) (v : α), n + 1 < 2 ^ f → get d (set d f t n v) m = if m = n then v else get d t m
  | 0, t, n, m, v, h => by simp at h
  | f + 1, nil, n, m, v, h => by
    have hp : 2 ^ (f + 1) = 2 * 2 ^ f := by rw [Nat.pow_succ]; omega
    simp only [set, beq_if]
    by_cases h0 : n = 0
    · rw [if_pos h0]; simp only [get, beq_if]
      by_cases h1 : m = 0
      · rw [if_pos h1, if_pos (by omega)]
      · have h9 : ¬ m = n := by omega
        rw [if_neg h1, if_neg h9]; split <;> rfl
    · rw [if_neg h0]
      by_cases h2 : n % 2 = 1
      · rw [if_pos h2]; simp only [get, beq_if]
        by_cases h1 : m = 0
        · rw [if_pos h1, if_neg (by omega)]
        · rw [if_neg h1]
          by_cases h3 : m % 2 = 1
          · rw [if_pos h3, get_set d f nil (n / 2) (m / 2) v (by omega)]
            by_cases h4 : m = n
            · rw [if_pos (by omega), if_pos h4]
            · rw [if_neg (by omega), if_neg h4]; rfl
          · rw [if_neg h3, if_neg (by omega)]
      · rw [if_neg h2]; simp only [get, beq_if]
        by_cases h1 : m = 0
        · rw [if_pos h1, if_neg (by omega)]
        · rw [if_neg h1]
          by_cases h3 : m % 2 = 1
          · rw [if_pos h3, if_neg (by omega)]
          · rw [if_neg h3, get_set d f nil (n / 2 - 1) (m / 2 - 1) v (by omega)]
            by_cases h4 : m = n
            · rw [if_pos (by omega), if_pos h4]
            · rw [if_neg (by omega), if_neg h4]; rfl
  | f + 1, node x l r, n, m, v, h => by
    have hp : 2 ^ (f + 1) = 2 * 2 ^ f := by rw [Nat.pow_succ]; omega
    simp only [set, beq_if]
    by_cases h0 : n = 0
    · rw [if_pos h0]; simp only [get, beq_if]
      by_cases h1 : m = 0
      · rw [if_pos h1, if_pos (by omega)]
      · have h9 : ¬ m = n := by omega
        rw [if_neg h1, if_neg h9, if_neg h1]
    · rw [if_neg h0]
      by_cases h2 : n % 2 = 1
      · rw [if_pos h2]; simp only [get, beq_if]
        by_cases h1 : m = 0
        · rw [if_pos h1, if_neg (by omega), if_pos h1]
        · rw [if_neg h1, if_neg h1]
          by_cases h3 : m % 2 = 1
          · rw [if_pos h3, if_pos h3, get_set d f l (n / 2) (m / 2) v (by omega)]
            by_cases h4 : m = n
            · rw [if_pos (by omega), if_pos h4]
            · rw [if_neg (by omega), if_neg h4]
          · rw [if_neg h3, if_neg h3, if_neg (by omega)]
      · rw [if_neg h2]; simp only [get, beq_if]
        by_cases h1 : m = 0
        · rw [if_pos h1, if_neg (by omega), if_pos h1]
        · rw [if_neg h1, if_neg h1]
          by_cases h3 : m % 2 = 1
          · rw [if_pos h3, if_pos h3, if_neg (by omega)]
          · rw [if_neg h3, if_neg h3, get_set d f r (n / 2 - 1) (m / 2 - 1) v (by omega)]
            by_cases h4 : m = n
            · rw [if_pos (by omega), if_pos h4]
            · rw [if_neg (by omega), if_neg h4]
end BT
/-- slots in a tree -/
abbrev ET := BT Value
def ET.look (t : ET) (n : Nat) : Value := BT.get undef t n
def ET.put (t : ET) (n : Nat) (v : Value) : Option ET := cond (Nat.blt n 1000000) (some (BT.set undef 20 t n v)) none
def ERl (t : ET) (e : Env) : Prop := t.look = e.get
theorem ET.put_ok {t t' : ET} {e : Env} {n : Nat} {v : Value} (h : ERl t e) (hp : t.put n v = some t') : ERl t' (e.set n v) := by
  unfold ET.put at hp
  cases hb : Nat.blt n 1000000 with
  | false => rw [hb] at hp; cases hp
  | true =>
    rw [hb] at hp
    cases hp
    have hn : n < 1000000 := by simpa [Nat.blt_eq] using hb
    funext m
    show BT.get undef _ m = _
    rw [BT.get_set _ _ _ _ _ _ (by omega), Go.Proofs.YtjgpbhodbgjggaaGreat.K.get_set]
    split
    · rfl
    · exact congrFun h m
def putO (t : ET) : Option Nat → Value → Option ET
  | none, _ => some t
  | some d, v => t.put d v
theorem putO_ok {t t' : ET} {e : Env} {d : Option Nat} {v : Value} (h : ERl t e) (hp : putO t d v = some t') : ERl t' (setO e d v) := by
  cases d with
  | none => simp only [putO] at hp; cases hp; exact h
  | some d => exact ET.put_ok h hp
/-- blocks in a tree -/
structure HTr where
  t : BT Blk
  n : Nat
def HTr.get (T : HTr) (i : Nat) : Blk := BT.get .dead T.t i
def HTr.put (T : HTr) (i : Nat) (b : Blk) : Option HTr := cond (Nat.blt i T.n && Nat.blt T.n 1000000) (some ⟨BT.set .dead 20 T.t i b, T.n⟩) none
def HTr.push (T : HTr) (b : Blk) : Option HTr := cond (Nat.blt T.n 1000000) (some ⟨BT.set .dead 20 T.t T.n b, T.n + 1⟩) none
structure HRl (T : HTr) (H : Heap) : Prop where
  n : T.n = H.next
  g : ∀ i, T.get i = H.get i
theorem HTr.put_ok {T T' : HTr} {H : Heap} {i : Nat} {b : Blk} (h : HRl T H) (hp : T.put i b = some T') : HRl T' (H.put i b) := by
  unfold HTr.put at hp
  cases hb : (Nat.blt i T.n && Nat.blt T.n 1000000) with
  | false => rw [hb] at hp; cases hp
  | true =>
    rw [hb] at hp
    cases hp
    simp only [Bool.and_eq_true, Nat.blt_eq] at hb
    refine ⟨by rw [next_put]; exact h.n, fun m => ?_⟩
    show BT.get Blk.dead _ m = _
    rw [BT.get_set _ _ _ _ _ _ (by omega), Heap.get_put]
    have hn := h.n
    by_cases hm : m = i
    · rw [if_pos hm, if_pos ⟨hm, by omega⟩]
    · rw [if_neg hm, if_neg (fun e => hm e.1)]; exact h.g m
theorem HTr.push_ok {T T' : HTr} {H : Heap} {b : Blk} (h : HRl T H) (hp : T.push b = some T') : HRl T' (H.push b) := by
  unfold HTr.push at hp
  cases hb : Nat.blt T.n 1000000 with
  | false => rw [hb] at hp; cases hp
  | true =>
    rw [hb] at hp
    cases hp
    simp only [Nat.blt_eq] at hb
    have hn := h.n
    refine ⟨by simp [hn], fun m => ?_⟩
    show BT.get Blk.dead _ m = _
    rw [BT.get_set _ _ _ _ _ _ (by omega), Heap.get_push]
    by_cases hm : m = T.n
    · rw [if_pos hm, if_pos (by omega)]
    · rw [if_neg hm, if_neg (by omega)]; exact h.g m
def tLd (T : HTr) : Value → Option Value
  | .pointer (some a) => match T.get a.block with
    | .cells c _ _ => c[a.off]?
    | _ => none
  | _ => none
def tLdn (T : HTr) (n : Nat) : Value → Option Value
  | .pointer (some a) => match T.get a.block with
    | .cells c _ _ => (rd c a.off n).map fun l => .agg l.toArray
    | _ => none
  | _ => none
def tSt (T : HTr) : Value → Value → Option HTr
  | .pointer (some a), v => match T.get a.block with
    | .cells c t true => if a.off < c.length && oneC v then T.put a.block (.cells (c.set a.off v) t true) else none
    | _ => none
  | _, _ => none
def tStn (T : HTr) (n : Nat) : Value → Value → Option HTr
  | .pointer (some a), .agg vs => match T.get a.block with
    | .cells c t true => if a.off + n ≤ c.length && vs.size == n then T.put a.block (.cells (wr c a.off vs.toList) t true) else none
    | _ => none
  | _, _ => none
def tRow (T : HTr) (t : TypeId) (esz n : Nat) : Option Addr → Option (List Value)
  | none => if n = 0 then some [] else none
  | some a => match T.get a.block with
    | .cells c t' _ => if t' = t then rd c a.off (n * esz) else none
    | _ => none
def tApp (T : HTr) (t : TypeId) (esz bytes : Nat) (v : Value) (m : Nat) (news : List Value) : Option (Value × HTr) :=
  match v with
  | .slice none n c =>
    if n = 0 ∧ c = 0 ∧ m * bytes ≤ roomMax ∧ m ≤ roomMax then
      if m = 0 then some (v, T) else (T.push (.cells news t true)).map fun T' => (.slice (some ⟨T.n, 0, none⟩) m capx, T')
    else none
  | .slice (some a) n c => match T.get a.block with
    | .cells cs t' rw =>
      if t' = t ∧ (n + m) * bytes ≤ roomMax ∧ n + m ≤ roomMax then
        if c = capx then
          if m = 0 then some (v, T)
          else if rw then (rd cs a.off (n * esz)).bind fun olds => (T.put a.block .dead).bind fun T1 => (T1.push (.cells (olds ++ news) t true)).map fun T' => (.slice (some ⟨T.n, 0, none⟩) (n + m) capx, T')
          else none
        else if n + m ≤ c then
          if m = 0 then some (v, T)
          else if rw && decide (a.off + (n + m) * esz ≤ cs.length) then (T.put a.block (.cells (wr cs (a.off + n * esz) news) t true)).map fun T' => (.slice (some a) (n + m) c, T') else none
        else (rd cs a.off (n * esz)).bind fun olds => (T.push (.cells (olds ++ news) t true)).map fun T' => (.slice (some ⟨T.n, 0, none⟩) (n + m) capx, T')
      else none
    | _ => none
  | _ => none
/-- operations that look at no memory -/
def pureO : KOp → Bool
  | .mv _ | .pick _ _ _ | .build _ _ | .nck _ | .bin _ _ _ | .eqv _ _ _ _ | .un _ _ | .cvt _ _ | .mki _ _ | .mkf _ _ _ | .slS _ _ _ | .fad _ _ | .fld _ _ | .fldn _ _ _ | .iad _ _ _ | .iada _ _ _ _ | .idS _ _ | .ida _ _ _ | .idan _ _ _ _ | .xt _ _ | .lenS _ | .lenL _ | .mx _ _ | .mn _ _ | .tas _ _ _ _ => true
  | _ => false
theorem pure_kop {o : KOp} (h : pureO o = true) (e : Env) (H : Heap) : kop o e H = (kop o e []).map fun p => (p.1, H) := by
  cases o <;> simp [pureO] at h <;> simp only [kop]
  all_goals first
    | rfl
    | (simp only [Option.map_map]; rfl)
    | (split <;> first | rfl | (simp only [Option.map_map]; rfl) | (split <;> rfl))
    | skip
  case slS x lo hi =>
    split
    · rename_i s _
      cases evI e 0 lo with
      | none => rfl
      | some l =>
        simp only [Option.bind_some]
        cases evI e s.size hi with
        | none => rfl
        | some h' => simp only [Option.bind_some, Option.map_map]; rfl
    · rfl
  case idS =>
    split
    · split
      · simp only [Option.map_map]; rfl
      · rfl
    · rfl
  case ida =>
    split
    · split
      · simp only [Option.map_map]; rfl
      · rfl
    · rfl
  case idan =>
    split
    · split
      · simp only [Option.map_map]; rfl
      · rfl
    · rfl
  case tas =>
    unfold kTas
    repeat' split
    all_goals rfl
def tev (e : ET) : Opd → Value
  | .c v => v
  | .t n => e.look n
theorem tev_ok {t : ET} {e : Env} (h : ERl t e) (x : Opd) : tev t x = e.ev x := by
  cases x with
  | c v => rfl
  | t n => exact congrFun h n
def tevPs (e : ET) (ps : List (Nat × Nat × Opd)) : List (Nat × Nat × Value) := ps.map fun p => (p.1, p.2.1, tev e p.2.2)
theorem tevPs_ok {t : ET} {e : Env} (h : ERl t e) (ps : List (Nat × Nat × Opd)) : tevPs t ps = evPs e ps := by
  unfold tevPs evPs
  congr 1
  funext p
  rw [tev_ok h]
def tevI (e : ET) (d : Int) : Option Opd → Option Int
  | none => some d
  | some x => match tev e x with
    | .int _ n => some n
    | _ => none
theorem tevI_ok {t : ET} {e : Env} (h : ERl t e) (d : Int) (o : Option Opd) : tevI t d o = evI e d o := by
  cases o with
  | none => rfl
  | some x => simp only [tevI, evI, tev_ok h]; rfl
def tSlc (T : HTr) (t : TypeId) (esz : Nat) (v : Value) (l : Int) (h : Option Int) : Option Value :=
  match v with
  | .slice none n c => if c = capx then none else
      if 0 ≤ l ∧ l ≤ h.getD n ∧ h.getD n ≤ c then some (.slice none (h.getD n - l).toNat (c - l.toNat)) else none
  | .slice (some a) n c => match T.get a.block with
    | .cells _ t' _ =>
      if t' = t then
        if c = capx then
          if 0 ≤ l ∧ l ≤ h.getD n ∧ h.getD n ≤ n then some (.slice (some (addOff a (l.toNat * esz))) (h.getD n - l).toNat capx) else none
        else
          if 0 ≤ l ∧ l ≤ h.getD n ∧ h.getD n ≤ c then
            some (.slice (some (if l.toNat = c then a else addOff a (l.toNat * esz))) (h.getD n - l).toNat (c - l.toNat)) else none
      else none
    | _ => none
  | _ => none
def tSla (T : HTr) (t : TypeId) (len esz : Nat) (a : Addr) (l h : Int) : Option Value :=
  match T.get a.block with
  | .cells cs t' _ => if t' = t ∧ a.off + len * esz ≤ cs.length ∧ 0 ≤ l ∧ l ≤ h ∧ h ≤ len then some (.slice (some (if l.toNat = len then a else addOff a (l.toNat * esz))) (h - l).toNat (len - l.toNat)) else none
  | _ => none
def tkop (o : KOp) (e : ET) (T : HTr) : Option (Value × HTr) :=
  match o with
  | .alloc t z => (T.push (.cells z t true)).map fun T' => (.pointer (some ⟨T.n, 0, none⟩), T')
  | .box t x => if isTup (tev e x) then none else (T.push (.cells (cellsL (tev e x)) t true)).map fun T' => (.pointer (some ⟨T.n, 0, none⟩), T')
  | .bsl t len z ps => (kFill z (tevPs e ps)).bind fun c => (T.push (.cells c t true)).map fun T' => (.slice (some ⟨T.n, 0, none⟩) len len, T')
  | .ld a => (tLd T (tev e a)).map (·, T)
  | .ldn n a => (tLdn T n (tev e a)).map (·, T)
  | .st a v => (tSt T (tev e a) (tev e v)).map (noV, ·)
  | .stn n a v => (tStn T n (tev e a) (tev e v)).map (noV, ·)
  | .s2b t x => match tev e x with
    | .string s => if s.size ≤ roomMax then (T.push (.cells (byteVals s) t true)).map fun T' => (.slice (some ⟨T.n, 0, none⟩) s.size capx, T') else none
    | _ => none
  | .b2s t x => match tev e x with
    | .slice a n _ => (tRow T t 1 n a).bind fun l => (kBytes l).map fun bs => (.string ⟨bs.toArray⟩, T)
    | _ => none
  | .mks t z bytes l c => match tev e l, tev e c with
    | .int _ l, .int _ c => if 0 ≤ l ∧ l ≤ c ∧ c ≤ 9223372036854775807 ∧ (bytes : Int) * c ≤ 281474976710656 then (T.push (.cells (zeros z c.toNat) t true)).map fun T' => (.slice (some ⟨T.n, 0, none⟩) l.toNat c.toNat, T') else none
    | _, _ => none
  | .slc t esz x lo hi => (tevI e 0 lo).bind fun l => match hi with
    | none => (tSlc T t esz (tev e x) l none).map (·, T)
    | some hi => (tevI e 0 (some hi)).bind fun h => (tSlc T t esz (tev e x) l (some h)).map (·, T)
  | .sla t len esz x lo hi => (tevI e 0 lo).bind fun l => (tevI e len hi).bind fun h => match tev e x with
    | .pointer (some a) => (tSla T t len esz a l h).map (·, T)
    | _ => none
  | .app t esz bytes x y => match tev e y with
    | .slice a m _ => (tRow T t esz m a).bind fun news => tApp T t esz bytes (tev e x) m news
    | _ => none
  | .appS t x y => match tev e y with
    | .string s => tApp T t 1 1 (tev e x) s.size (byteVals s)
    | _ => none
  | .cpy t esz x y => match tev e x, tev e y with
    | .slice a n _, .slice b m _ => (tRow T t esz (min m n) b).bind fun l =>
        match a with
        | none => some (.int .i64 (min m n : Nat), T)
        | some a => match T.get a.block with
          | .cells c t' true => if t' = t && decide (a.off + l.length ≤ c.length) then (T.put a.block (.cells (wr c a.off l) t' true)).map fun T' => (.int .i64 (min m n : Nat), T') else none
          | _ => none
    | _, _ => none
  | o => if pureO o then (kop (sub e.look o) [] []).map fun p => (p.1, T) else none
section
variable {T T' : HTr} {H : Heap} {t : ET} {e : Env} {v : Value}
theorem tLd_ok (h : HRl T H) (x : Value) : tLd T x = kLd H x := by
  unfold tLd kLd
  cases x <;> try rfl
  case pointer a =>
    cases a with
    | none => rfl
    | some a => simp only [h.g]; rfl
theorem tLdn_ok (h : HRl T H) (n : Nat) (x : Value) : tLdn T n x = kLdn H n x := by
  unfold tLdn kLdn
  cases x <;> try rfl
  case pointer a =>
    cases a with
    | none => rfl
    | some a => simp only [h.g]; rfl
theorem tRow_ok (h : HRl T H) (ty : TypeId) (z n : Nat) (a : Option Addr) : tRow T ty z n a = kRow H ty z n a := by
  unfold tRow kRow
  cases a with
  | none => rfl
  | some a => simp only [h.g]; rfl
theorem tSlc_ok (h : HRl T H) (ty : TypeId) (z : Nat) (x : Value) (l : Int) (hi : Option Int) : tSlc T ty z x l hi = kSlc H ty z x l hi := by
  unfold tSlc kSlc
  simp only [h.g]
  rfl
theorem tSla_ok (h : HRl T H) (ty : TypeId) (n z : Nat) (a : Addr) (l hi : Int) : tSla T ty n z a l hi = kSla H ty n z a l hi := by
  unfold tSla kSla
  simp only [h.g]
  rfl
theorem push_of (h : HRl T H) {b : Blk} {f : HTr → Value × HTr} {w : Value} (hf : ∀ T', f T' = (w, T')) {r : Value × HTr} (hp : (T.push b).map f = some r) : r.1 = w ∧ HRl r.2 (H.push b) := by
  cases hq : T.push b with
  | none => rw [hq] at hp; cases hp
  | some T1 =>
    rw [hq] at hp
    simp only [Option.map_some, Option.some.injEq, hf] at hp
    subst hp
    exact ⟨rfl, HTr.push_ok h hq⟩
theorem tSt_ok (h : HRl T H) {x y : Value} (hk : tSt T x y = some T') : ∃ H', kSt H x y = some H' ∧ HRl T' H' := by
  cases x <;> try (cases hk; done)
  case pointer a =>
    cases a with
    | none => cases hk
    | some a =>
      simp only [tSt, h.g] at hk
      simp only [kSt]
      cases hg : H.get a.block with
      | cells c ty rw =>
        rw [hg] at hk
        cases rw with
        | false => cases hk
        | true =>
          simp only at hk ⊢
          split at hk
          · rename_i hc; rw [if_pos hc]; exact ⟨_, rfl, HTr.put_ok h hk⟩
          · cases hk
      | _ => rw [hg] at hk; cases hk
theorem tStn_ok (h : HRl T H) {n : Nat} {x y : Value} (hk : tStn T n x y = some T') : ∃ H', kStn H n x y = some H' ∧ HRl T' H' := by
  cases x <;> try (cases hk; done)
  case pointer a =>
    cases a with
    | none => cases hk
    | some a =>
      cases y <;> try (cases hk; done)
      case agg vs =>
        simp only [tStn, h.g] at hk
        simp only [kStn]
        cases hg : H.get a.block with
        | cells c ty rw =>
          rw [hg] at hk
          cases rw with
          | false => cases hk
          | true =>
            simp only at hk ⊢
            split at hk
            · rename_i hc; rw [if_pos hc]; exact ⟨_, rfl, HTr.put_ok h hk⟩
            · cases hk
        | _ => rw [hg] at hk; cases hk
theorem tApp_ok (h : HRl T H) {ty : TypeId} {z by_ m : Nat} {x : Value} {news : List Value} {r : Value × HTr} (hk : tApp T ty z by_ x m news = some r) : ∃ H', kApp H ty z by_ x m news = some (r.1, H') ∧ HRl r.2 H' := by
  have hn := h.n
  cases x <;> try (cases hk; done)
  case slice a n c =>
    cases a with
    | none =>
      simp only [tApp] at hk
      simp only [kApp]
      split at hk
      · rename_i hc
        rw [if_pos hc]
        split at hk
        · rename_i h0; rw [if_pos h0]; cases hk; exact ⟨_, rfl, h⟩
        · rename_i h0
          rw [if_neg h0]
          obtain ⟨h1, h2⟩ := push_of h (fun _ => rfl) hk
          exact ⟨_, by rw [h1, hn], h2⟩
      · cases hk
    | some a =>
      simp only [tApp, h.g] at hk
      simp only [kApp]
      cases hg : H.get a.block with
      | cells cs t' rw =>
        rw [hg] at hk
        simp only at hk ⊢
        split at hk
        · rename_i hc
          rw [if_pos hc]
          split at hk
          · rename_i hcap
            rw [if_pos hcap]
            split at hk
            · rename_i h0; rw [if_pos h0]; cases hk; exact ⟨_, rfl, h⟩
            · rename_i h0
              rw [if_neg h0]
              split at hk
              · rename_i hrw
                rw [if_pos hrw]
                cases ho : rd cs a.off (n * z) with
                | none => rw [ho] at hk; cases hk
                | some olds =>
                  rw [ho] at hk
                  simp only [Option.bind_some] at hk
                  cases hq : T.put a.block .dead with
                  | none => rw [hq] at hk; cases hk
                  | some T1 =>
                    rw [hq] at hk
                    simp only [Option.bind_some] at hk
                    have hp := HTr.put_ok h hq
                    have hn1 : H.next = (H.put a.block .dead).next := by rw [next_put]
                    obtain ⟨h1, h2⟩ := push_of hp (fun _ => rfl) hk
                    exact ⟨_, by rw [h1, hn]; rfl, h2⟩
              · cases hk
          · rename_i hcap
            rw [if_neg hcap]
            split at hk
            · rename_i hle
              rw [if_pos hle]
              split at hk
              · rename_i h0; rw [if_pos h0]; cases hk; exact ⟨_, rfl, h⟩
              · rename_i h0
                rw [if_neg h0]
                split at hk
                · rename_i hrw
                  rw [if_pos hrw]
                  cases hq : T.put a.block (.cells (wr cs (a.off + n * z) news) ty true) with
                  | none => rw [hq] at hk; cases hk
                  | some T1 => rw [hq] at hk; cases hk; exact ⟨_, rfl, HTr.put_ok h hq⟩
                · cases hk
            · rename_i hle
              rw [if_neg hle]
              cases ho : rd cs a.off (n * z) with
              | none => rw [ho] at hk; cases hk
              | some olds =>
                rw [ho] at hk
                simp only [Option.bind_some] at hk
                obtain ⟨h1, h2⟩ := push_of h (fun _ => rfl) hk
                exact ⟨_, by rw [h1, hn]; rfl, h2⟩
        · cases hk
      | _ => rw [hg] at hk; cases hk
theorem tkop_ok (he : ERl t e) (h : HRl T H) {o : KOp} {r : Value × HTr} (hk : tkop o t T = some r) : ∃ H', kop o e H = some (r.1, H') ∧ HRl r.2 H' := by
  have hn := h.n
  cases o
  case alloc ty z =>
    obtain ⟨h1, h2⟩ := push_of h (fun _ => rfl) hk
    exact ⟨_, by simp only [kop, h1, hn], h2⟩
  case box ty x =>
    simp only [tkop, tev_ok he] at hk
    split at hk
    · cases hk
    · rename_i hx
      obtain ⟨h1, h2⟩ := push_of h (fun _ => rfl) hk
      exact ⟨_, by simp only [kop, hx, h1, hn]; rfl, h2⟩
  case bsl ty len z ps =>
    simp only [tkop, tevPs_ok he] at hk
    cases hf : kFill z (evPs e ps) with
    | none => rw [hf] at hk; cases hk
    | some c =>
      rw [hf] at hk
      obtain ⟨h1, h2⟩ := push_of h (fun _ => rfl) hk
      exact ⟨_, by simp only [kop, hf, Option.map_some, h1, hn], h2⟩
  case ld a =>
    simp only [tkop, tev_ok he, tLd_ok h] at hk
    cases hf : kLd H (e.ev a) with
    | none => rw [hf] at hk; cases hk
    | some c => rw [hf] at hk; cases hk; exact ⟨_, by simp only [kop, hf]; rfl, h⟩
  case ldn n a =>
    simp only [tkop, tev_ok he, tLdn_ok h] at hk
    cases hf : kLdn H n (e.ev a) with
    | none => rw [hf] at hk; cases hk
    | some c => rw [hf] at hk; cases hk; exact ⟨_, by simp only [kop, hf]; rfl, h⟩
  case st a x =>
    simp only [tkop, tev_ok he] at hk
    cases hq : tSt T (e.ev a) (e.ev x) with
    | none => rw [hq] at hk; cases hk
    | some T1 =>
      rw [hq] at hk; cases hk
      obtain ⟨H', h1, h2⟩ := tSt_ok h hq
      exact ⟨H', by simp only [kop, h1]; rfl, h2⟩
  case stn n a x =>
    simp only [tkop, tev_ok he] at hk
    cases hq : tStn T n (e.ev a) (e.ev x) with
    | none => rw [hq] at hk; cases hk
    | some T1 =>
      rw [hq] at hk; cases hk
      obtain ⟨H', h1, h2⟩ := tStn_ok h hq
      exact ⟨H', by simp only [kop, h1]; rfl, h2⟩
  case s2b ty x =>
    simp only [tkop, tev_ok he] at hk
    simp only [kop]
    cases hx : e.ev x <;> rw [hx] at hk <;> try (cases hk; done)
    case string s =>
      simp only at hk ⊢
      split at hk
      · rename_i hc
        rw [if_pos hc]
        obtain ⟨h1, h2⟩ := push_of h (fun _ => rfl) hk
        exact ⟨_, by rw [h1, hn], h2⟩
      · cases hk
  case b2s ty x =>
    simp only [tkop, tev_ok he] at hk
    simp only [kop]
    cases hx : e.ev x <;> rw [hx] at hk <;> try (cases hk; done)
    case slice a n c =>
      simp only [tRow_ok h] at hk ⊢
      cases hr : kRow H ty 1 n a with
      | none => rw [hr] at hk; cases hk
      | some l =>
        rw [hr] at hk
        simp only [Option.bind_some] at hk ⊢
        cases hb : kBytes l with
        | none => rw [hb] at hk; cases hk
        | some bs => rw [hb] at hk; cases hk; exact ⟨_, rfl, h⟩
  case mks ty z by_ l c =>
    simp only [tkop, tev_ok he] at hk
    simp only [kop, kMks]
    cases hx : e.ev l <;> rw [hx] at hk <;> try (cases hk; done)
    case int k1 l =>
      cases hy : e.ev c <;> rw [hy] at hk <;> try (cases hk; done)
      case int k2 c =>
        simp only at hk ⊢
        split at hk
        · rename_i hc
          rw [if_pos hc]
          obtain ⟨h1, h2⟩ := push_of h (fun _ => rfl) hk
          exact ⟨_, by rw [h1, hn], h2⟩
        · cases hk
  case slc ty z x lo hi =>
    simp only [tkop, tev_ok he, tevI_ok he] at hk
    simp only [kop]
    cases hl : evI e 0 lo with
    | none => rw [hl] at hk; cases hk
    | some l =>
      rw [hl] at hk
      cases hi with
      | none =>
        simp only [Option.bind_some, tSlc_ok h] at hk ⊢
        cases hq : kSlc H ty z (e.ev x) l none with
        | none => rw [hq] at hk; cases hk
        | some q => rw [hq] at hk; cases hk; exact ⟨_, rfl, h⟩
      | some hi =>
        simp only [Option.bind_some] at hk ⊢
        cases hh : evI e 0 (some hi) with
        | none => rw [hh] at hk; cases hk
        | some h3 =>
          rw [hh] at hk
          simp only [Option.bind_some, tSlc_ok h] at hk ⊢
          cases hq : kSlc H ty z (e.ev x) l (some h3) with
          | none => rw [hq] at hk; cases hk
          | some q => rw [hq] at hk; cases hk; exact ⟨_, rfl, h⟩
  case sla ty len z x lo hi =>
    simp only [tkop, tev_ok he, tevI_ok he] at hk
    simp only [kop]
    cases hl : evI e 0 lo with
    | none => rw [hl] at hk; cases hk
    | some l =>
      rw [hl] at hk
      simp only [Option.bind_some] at hk ⊢
      cases hh : evI e len hi with
      | none => rw [hh] at hk; cases hk
      | some h3 =>
        rw [hh] at hk
        simp only [Option.bind_some] at hk ⊢
        cases hx : e.ev x <;> rw [hx] at hk <;> try (cases hk; done)
        case pointer a =>
          cases a with
          | none => cases hk
          | some a =>
            simp only [tSla_ok h] at hk ⊢
            cases hq : kSla H ty len z a l h3 with
            | none => rw [hq] at hk; cases hk
            | some q => rw [hq] at hk; cases hk; exact ⟨_, rfl, h⟩
  case app ty z by_ x y =>
    simp only [tkop, tev_ok he] at hk
    simp only [kop]
    cases hy : e.ev y <;> rw [hy] at hk <;> try (cases hk; done)
    case slice a m c =>
      simp only [tRow_ok h] at hk ⊢
      cases hr : kRow H ty z m a with
      | none => rw [hr] at hk; cases hk
      | some news =>
        rw [hr] at hk
        exact tApp_ok h hk
  case appS ty x y =>
    simp only [tkop, tev_ok he] at hk
    simp only [kop]
    cases hy : e.ev y <;> rw [hy] at hk <;> try (cases hk; done)
    case string s => exact tApp_ok h hk
  case cpy ty z x y =>
    simp only [tkop, tev_ok he] at hk
    simp only [kop]
    cases hx : e.ev x <;> rw [hx] at hk <;> try (cases hk; done)
    case slice a n c1 =>
      cases hy : e.ev y <;> rw [hy] at hk <;> try (cases hk; done)
      case slice b m c2 =>
        simp only [tRow_ok h] at hk ⊢
        cases hr : kRow H ty z (min m n) b with
        | none => rw [hr] at hk; cases hk
        | some l =>
          rw [hr] at hk
          simp only [Option.bind_some] at hk ⊢
          cases a with
          | none => cases hk; exact ⟨_, rfl, h⟩
          | some a =>
            simp only [h.g] at hk ⊢
            cases hg : H.get a.block with
            | cells c t' rw =>
              rw [hg] at hk
              cases rw with
              | false => cases hk
              | true =>
                simp only at hk ⊢
                split at hk
                · rename_i hc
                  rw [if_pos hc]
                  cases hq : T.put a.block (.cells (wr c a.off l) t' true) with
                  | none => rw [hq] at hk; cases hk
                  | some T1 => rw [hq] at hk; cases hk; exact ⟨_, rfl, HTr.put_ok h hq⟩
                · cases hk
            | _ => rw [hg] at hk; cases hk
  all_goals
    (simp only [tkop] at hk
     split at hk
     · rename_i hp
       have he' : t.look = e.get := he
       rw [he', kop_sub] at hk
       have h1 := pure_kop hp e H
       cases hq : kop _ e [] with
       | none => rw [hq] at hk; cases hk
       | some q => rw [hq] at hk h1; cases hk; exact ⟨H, h1, h⟩
     · cases hk)
end
def wantsT (e : ET) : Option (Nat × Bool) → Bool
  | none => true
  | some (s, w) => match e.look s with
    | .bool b => b == w
    | _ => false
abbrev CallT := FuncId → List Value → HTr → Option (Value × HTr)
def recvT (T : HTr) (v : Value) : Recv → Option Value
  | .as => some v
  | .ld => tLd T v
  | .ldn n => tLdn T n v
def T0 : HTr := ⟨.nil, 0⟩
def tExec (S : Sys) (call : CallT) (o : KOp) (e : ET) (T : HTr) : Option (Value × HTr) :=
  match o with
  | .call f args => call f (args.map (tev e)) T
  | .callp f args => if (args.map (tev e)).all gndV then (call f (args.map (tev e)) T0).bind fun p => if gndV p.1 then some (p.1, T) else none else none
  | .callv f args => match tev e f with
    | .func (.func f) first cap => call f (first.toList ++ args.map (tev e) ++ cap.toList) T
    | _ => none
  | .inv r name args => match tev e r with
    | .iface t v => (S.M t name).bind fun p => (recvT T v p.2).bind fun x => call p.1 (x :: args.map (tev e)) T
    | _ => none
  | o => tkop o e T
def tStep (S : Sys) (call : CallT) : KStep → ET → HTr → Option (ET × HTr)
  | .op dst g o, e, T => if wantsT e g then (tExec S call o e T).bind fun p => (putO e dst p.1).map fun e' => (e', p.2) else (putO e dst undef).map fun e' => (e', T)
  | .chk dst g o, e, T => if wantsT e g then (tkop o e T).bind fun p => if veq p.1 (e.look dst) then some (e, T) else none else some (e, T)
def tSteps (S : Sys) (call : CallT) : List KStep → ET → HTr → Option (ET × HTr)
  | [], e, T => some (e, T)
  | s :: l, e, T => (tStep S call s e T).bind fun p => tSteps S call l p.1 p.2
structure KStT where
  x : KExit
  e : ET
  T : HTr
def tLoop (f : ET → HTr → Option KStT) : Nat → ET → HTr → Option KStT
  | 0, _, _ => none
  | m + 1, e, T => (f e T).bind fun s => match s.x with
    | .normal => tLoop f m s.e s.T
    | _ => some s
def tElm (T : HTr) (v : Value) (i : Nat) : Option Value := match v with
  | .slice (some a) n _ => if i < n then tLd T (.pointer (some (addOff a i))) else none
  | _ => none
def tBk (f : Nat → HTr → Option (KExit × HTr)) : Nat → HTr → Option (KExit × HTr)
  | 0, T => some (.normal, T)
  | i + 1, T => (f i T).bind fun r => match r.1 with
    | .normal => tBk f i r.2
    | .ret => some r
    | .exit _ => none
def tRd (asg body : ET → HTr → Option KStT) (e : ET) (p1 p2 : Nat) (c : Addr) (i : Nat) (T : HTr) : Option (KExit × HTr) :=
  (tLd T (.pointer (some c))).bind fun v => (tElm T v i).bind fun x => (e.put p1 (.int .i64 i)).bind fun e1 => (e1.put p2 x).bind fun e2 => (asg e2 T).bind fun s => match s.x with
    | .normal => (body s.e s.T).map fun s2 => (s2.x, s2.T)
    | _ => none
def tCode (S : Sys) (call : CallT) (n : Nat) : KCode → ET → HTr → Option KStT
  | .skip, e, T => some ⟨.normal, e, T⟩
  | .reg l, e, T => (tSteps S call l e T).map fun p => ⟨.normal, p.1, p.2⟩
  | .seq a b, e, T => (tCode S call n a e T).bind fun s => match s.x with
    | .normal => tCode S call n b s.e s.T
    | _ => some s
  | .cond c a b, e, T => match tev e c with
    | .bool true => tCode S call n a e T
    | .bool false => tCode S call n b e T
    | _ => none
  | .block id c, e, T => (tCode S call n c e T).map fun s => if s.x = .exit id then ⟨.normal, s.e, s.T⟩ else s
  | .loop c, e, T => tLoop (fun e T => tCode S call n c e T) n e T
  | .exit id, e, T => some ⟨.exit id, e, T⟩
  | .ret, e, T => some ⟨.ret, e, T⟩
  | .nev, _, _ => none
  | .mdec _ _ _ _ _, _, _ => none
  | .back g p1 p2 asg body, e, T => (bkCell S.B (e.look g)).bind fun c => (tLd T (.pointer (some c))).bind fun v => (bkLen v).bind fun l =>
    (tBk (tRd (fun e T => tCode S call n asg e T) (fun e T => tCode S call n body e T) e p1 p2 c) l T).map fun r => ⟨r.1, e, r.2⟩
def tRes1 (e : ET) (T : HTr) : KRes → Option Value
  | .t n => some (e.look n)
  | .c1 a => tLd T (e.look a)
  | .cn a n => tLdn T n (e.look a)
def tResL (e : ET) (T : HTr) : List KRes → Option (List Value)
  | [] => some []
  | r :: rs => (tRes1 e T r).bind fun v => (tResL e T rs).map (v :: ·)
def initT : List Value → Nat → ET → Option ET
  | [], _, t => some t
  | v :: l, n, t => (t.put n v).bind fun t' => initT l (n + 1) t'
def evT (S : Sys) (RT : FuncId → Option (List Value → HTr → Option (Value × HTr))) : Nat → CallT
  | 0 => fun _ _ _ => none
  | n + 1 => fun f args T => match RT f with
    | some q => q args T
    | none => (S.F f).bind fun k => (initT args 0 .nil).bind fun e => (tCode S (evT S RT n) n k.body e T).bind fun s => match s.x with
      | .exit _ => none
      | _ => ((tResL s.e s.T k.res).map tup).map (·, s.T)
section
variable {S : Sys} {T T' : HTr} {H : Heap} {t : ET} {e : Env} {v : Value} {cT : CallT} {c : CallO}
def CR (cT : CallT) (c : CallO) : Prop := ∀ f args T H r, HRl T H → cT f args T = some r → ∃ H', c f args H = some (r.1, H') ∧ HRl r.2 H'
theorem T0_ok : HRl T0 [] := ⟨rfl, fun i => rfl⟩
theorem wantsT_ok (he : ERl t e) (g : Option (Nat × Bool)) : wantsT t g = wants e g := by
  cases g with
  | none => rfl
  | some p =>
    have : t.look p.1 = e.get p.1 := congrFun he p.1
    simp only [wantsT, wants, this]
    cases e.get p.1 <;> rfl
theorem tevs_ok (he : ERl t e) (l : List Opd) : l.map (tev t) = l.map e.ev := by
  congr 1; funext x; exact tev_ok he x
theorem recvT_ok (h : HRl T H) (x : Value) (r : Recv) : recvT T x r = recvOf H x r := by
  cases r with
  | as => rfl
  | ld => exact tLd_ok h x
  | ldn n => exact tLdn_ok h n x
theorem tExec_ok (hc : CR cT c) (he : ERl t e) (h : HRl T H) {o : KOp} {r : Value × HTr} (hk : tExec S cT o t T = some r) : ∃ H', kExec S c o e H = some (r.1, H') ∧ HRl r.2 H' := by
  cases o
  case call f args =>
    simp only [tExec, tevs_ok he] at hk
    exact hc _ _ _ _ _ h hk
  case callp f args =>
    simp only [tExec, tevs_ok he] at hk
    simp only [kExec]
    split at hk
    · rename_i hg
      rw [if_pos hg]
      cases hq : cT f (args.map e.ev) T0 with
      | none => rw [hq] at hk; cases hk
      | some p =>
        rw [hq] at hk
        simp only [Option.bind_some] at hk
        split at hk
        · rename_i hg2
          cases hk
          obtain ⟨H', h1, _⟩ := hc _ _ _ _ _ T0_ok hq
          exact ⟨H, by rw [h1]; simp only [Option.bind_some, hg2, if_true], h⟩
        · cases hk
    · cases hk
  case callv f args =>
    simp only [tExec, tev_ok he, tevs_ok he] at hk
    simp only [kExec]
    cases hf : e.ev f <;> rw [hf] at hk <;> try (cases hk; done)
    case func f first cap =>
      cases f <;> try (cases hk; done)
      exact hc _ _ _ _ _ h hk
  case inv r name args =>
    simp only [tExec, tev_ok he, tevs_ok he] at hk
    simp only [kExec]
    cases hf : e.ev r <;> rw [hf] at hk <;> try (cases hk; done)
    case iface ty x =>
      simp only at hk ⊢
      cases hm : S.M ty name with
      | none => rw [hm] at hk; cases hk
      | some p =>
        rw [hm] at hk
        simp only [Option.bind_some, recvT_ok h] at hk ⊢
        cases hr : recvOf H x p.2 with
        | none => rw [hr] at hk; cases hk
        | some y =>
          rw [hr] at hk
          exact hc _ _ _ _ _ h hk
  all_goals
    (simp only [tExec] at hk
     simp only [kExec]
     exact tkop_ok he h hk)
theorem tStep_ok (hc : CR cT c) (he : ERl t e) (h : HRl T H) {s : KStep} {r : ET × HTr} (hk : tStep S cT s t T = some r) : ∃ e' H', kStep S c s e H = some (e', H') ∧ ERl r.1 e' ∧ HRl r.2 H' := by
  cases s with
  | op d g o =>
    simp only [tStep, wantsT_ok he] at hk
    simp only [kStep]
    split at hk
    · rename_i hw
      rw [if_pos hw]
      cases hq : tExec S cT o t T with
      | none => rw [hq] at hk; cases hk
      | some p =>
        rw [hq] at hk
        simp only [Option.bind_some] at hk
        obtain ⟨H', h1, h2⟩ := tExec_ok hc he h hq
        cases hp : putO t d p.1 with
        | none => rw [hp] at hk; cases hk
        | some t1 =>
          rw [hp] at hk; cases hk
          exact ⟨_, H', by rw [h1]; rfl, putO_ok he hp, h2⟩
    · rename_i hw
      rw [if_neg hw]
      cases hp : putO t d undef with
      | none => rw [hp] at hk; cases hk
      | some t1 => rw [hp] at hk; cases hk; exact ⟨_, H, rfl, putO_ok he hp, h⟩
  | chk d g o =>
    simp only [tStep, wantsT_ok he] at hk
    simp only [kStep]
    split at hk
    · rename_i hw
      rw [if_pos hw]
      cases hq : tkop o t T with
      | none => rw [hq] at hk; cases hk
      | some p =>
        rw [hq] at hk
        simp only [Option.bind_some] at hk
        obtain ⟨H', h1, h2⟩ := tkop_ok he h hq
        have hd : t.look d = e.get d := congrFun he d
        rw [hd] at hk
        split at hk
        · rename_i hv
          cases hk
          exact ⟨e, H, by rw [h1]; simp only [Option.bind_some, hv, if_true], he, h⟩
        · cases hk
    · rename_i hw
      rw [if_neg hw]
      cases hk
      exact ⟨e, H, rfl, he, h⟩
theorem tSteps_ok (hc : CR cT c) : ∀ (l : List KStep) {t : ET} {e : Env} {T : HTr} {H : Heap} {r : ET × HTr}, ERl t e → HRl T H → tSteps S cT l t T = some r → ∃ e' H', kSteps S c l e H = some (e', H') ∧ ERl r.1 e' ∧ HRl r.2 H'
  | [], t, e, T, H, r, he, h, hk => by simp only [tSteps] at hk; cases hk; exact ⟨e, H, rfl, he, h⟩
  | s :: l, t, e, T, H, r, he, h, hk => by
    simp only [tSteps] at hk
    cases hq : tStep S cT s t T with
    | none => rw [hq] at hk; cases hk
    | some p =>
      rw [hq] at hk
      simp only [Option.bind_some] at hk
      obtain ⟨e1, H1, h1, h2, h3⟩ := tStep_ok hc he h hq
      obtain ⟨e2, H2, h4, h5, h6⟩ := tSteps_ok hc l h2 h3 hk
      exact ⟨e2, H2, by simp only [kSteps, h1, Option.bind_some, h4], h5, h6⟩
def FR (fT : ET → HTr → Option KStT) (f : Env → Heap → Option KSt) : Prop := ∀ t e T H s, ERl t e → HRl T H → fT t T = some s → ∃ e' H', f e H = some ⟨s.x, e', H'⟩ ∧ ERl s.e e' ∧ HRl s.T H'
theorem tLoop_ok {fT : ET → HTr → Option KStT} {f : Env → Heap → Option KSt} (hf : FR fT f) : ∀ n, FR (tLoop fT n) (evLoop f n)
  | 0, t, e, T, H, s, he, h, hk => by simp only [tLoop] at hk; cases hk
  | n + 1, t, e, T, H, s, he, h, hk => by
    simp only [tLoop] at hk
    cases hq : fT t T with
    | none => rw [hq] at hk; cases hk
    | some p =>
      rw [hq] at hk
      obtain ⟨e1, H1, h1, h2, h3⟩ := hf _ _ _ _ _ he h hq
      simp only [Option.bind_some] at hk
      simp only [evLoop, h1, Option.bind_some]
      cases hx : p.x with
      | normal =>
        rw [hx] at hk
        simp only at hk ⊢
        exact tLoop_ok hf n _ _ _ _ _ h2 h3 hk
      | exit i => rw [hx] at hk; cases hk; exact ⟨e1, H1, by rw [hx], h2, h3⟩
      | ret => rw [hx] at hk; cases hk; exact ⟨e1, H1, by rw [hx], h2, h3⟩
def GR (gT : Nat → HTr → Option (KExit × HTr)) (g : Nat → Heap → Option (KExit × Heap)) : Prop := ∀ i T H r, HRl T H → gT i T = some r → ∃ H', g i H = some (r.1, H') ∧ HRl r.2 H'
theorem tBk_ok {gT : Nat → HTr → Option (KExit × HTr)} {g : Nat → Heap → Option (KExit × Heap)} (hg : GR gT g) : ∀ n, ∀ T H r, HRl T H → tBk gT n T = some r → ∃ H', evBk g n H = some (r.1, H') ∧ HRl r.2 H'
  | 0, T, H, r, h, hk => by simp only [tBk] at hk; cases hk; exact ⟨H, rfl, h⟩
  | n + 1, T, H, r, h, hk => by
    simp only [tBk] at hk
    cases hq : gT n T with
    | none => rw [hq] at hk; cases hk
    | some p =>
      rw [hq] at hk
      obtain ⟨H1, h1, h2⟩ := hg _ _ _ _ h hq
      simp only [Option.bind_some] at hk
      simp only [evBk, h1, Option.bind_some]
      cases hx : p.1 with
      | normal => rw [hx] at hk; exact tBk_ok hg n _ _ _ h2 hk
      | ret => rw [hx] at hk; cases hk; exact ⟨H1, by rw [hx], h2⟩
      | exit i => rw [hx] at hk; cases hk
theorem tElm_ok (h : HRl T H) (x : Value) (i : Nat) : tElm T x i = kElm H x i := by
  unfold tElm kElm
  cases x <;> try rfl
  case slice a n c =>
    cases a with
    | none => rfl
    | some a => simp only [tLd_ok h]
theorem tRd_ok {aT bT : ET → HTr → Option KStT} {a b : Env → Heap → Option KSt} (ha : FR aT a) (hb : FR bT b) (he : ERl t e) (p1 p2 : Nat) (ad : Addr) : GR (tRd aT bT t p1 p2 ad) (evRd a b e p1 p2 ad) := by
  intro i T H r h hk
  simp only [tRd, tLd_ok h, tElm_ok h] at hk
  simp only [evRd]
  cases h1 : kLd H (.pointer (some ad)) with
  | none => rw [h1] at hk; cases hk
  | some x =>
    rw [h1] at hk
    simp only [Option.bind_some] at hk ⊢
    cases h2 : kElm H x i with
    | none => rw [h2] at hk; cases hk
    | some y =>
      rw [h2] at hk
      simp only [Option.bind_some] at hk ⊢
      cases h3 : ET.put t p1 (.int .i64 i) with
      | none => rw [h3] at hk; cases hk
      | some t1 =>
        rw [h3] at hk
        simp only [Option.bind_some] at hk
        cases h4 : t1.put p2 y with
        | none => rw [h4] at hk; cases hk
        | some t2 =>
          rw [h4] at hk
          simp only [Option.bind_some] at hk
          have q := ET.put_ok (ET.put_ok he h3) h4
          cases h5 : aT t2 T with
          | none => rw [h5] at hk; cases hk
          | some s =>
            rw [h5] at hk
            obtain ⟨e1, H1, g1, g2, g3⟩ := ha _ _ _ _ _ q h h5
            rw [g1]
            simp only [Option.bind_some] at hk ⊢
            cases hx : s.x with
            | normal =>
              rw [hx] at hk
              simp only at hk ⊢
              cases h6 : bT s.e s.T with
              | none => rw [h6] at hk; cases hk
              | some s2 =>
                rw [h6] at hk; cases hk
                obtain ⟨e2, H2, g4, g5, g6⟩ := hb _ _ _ _ _ g2 g3 h6
                exact ⟨H2, by rw [g4]; rfl, g6⟩
            | exit i => rw [hx] at hk; cases hk
            | ret => rw [hx] at hk; cases hk
theorem tCode_ok (hc : CR cT c) (n : Nat) : ∀ k : KCode, FR (fun t T => tCode S cT n k t T) (fun e H => evCode S c n k e H) := by
  intro k
  induction k with
  | skip => intro t e T H s he h hk; simp only [tCode] at hk; cases hk; exact ⟨e, H, rfl, he, h⟩
  | exit i => intro t e T H s he h hk; simp only [tCode] at hk; cases hk; exact ⟨e, H, rfl, he, h⟩
  | ret => intro t e T H s he h hk; simp only [tCode] at hk; cases hk; exact ⟨e, H, rfl, he, h⟩
  | nev => intro t e T H s he h hk; simp only [tCode] at hk; cases hk
  | mdec _ _ _ _ _ => intro t e T H s he h hk; simp only [tCode] at hk; cases hk
  | reg l =>
    intro t e T H s he h hk
    simp only [tCode] at hk
    cases hq : tSteps S cT l t T with
    | none => rw [hq] at hk; cases hk
    | some p =>
      rw [hq] at hk; cases hk
      obtain ⟨e1, H1, h1, h2, h3⟩ := tSteps_ok hc l he h hq
      exact ⟨e1, H1, by simp only [evCode, h1]; rfl, h2, h3⟩
  | seq a b iha ihb =>
    intro t e T H s he h hk
    simp only [tCode] at hk
    cases hq : tCode S cT n a t T with
    | none => rw [hq] at hk; cases hk
    | some p =>
      rw [hq] at hk
      obtain ⟨e1, H1, h1, h2, h3⟩ := iha _ _ _ _ _ he h hq
      simp only [Option.bind_some] at hk
      simp only [evCode, h1, Option.bind_some]
      cases hx : p.x with
      | normal => rw [hx] at hk; exact ihb _ _ _ _ _ h2 h3 hk
      | exit i => rw [hx] at hk; cases hk; exact ⟨e1, H1, by rw [hx], h2, h3⟩
      | ret => rw [hx] at hk; cases hk; exact ⟨e1, H1, by rw [hx], h2, h3⟩
  | cond x a b iha ihb =>
    intro t e T H s he h hk
    simp only [tCode, tev_ok he] at hk
    simp only [evCode]
    cases hx : e.ev x <;> rw [hx] at hk <;> try (cases hk; done)
    case bool bb =>
      cases bb with
      | true => exact iha _ _ _ _ _ he h hk
      | false => exact ihb _ _ _ _ _ he h hk
  | block id a iha =>
    intro t e T H s he h hk
    simp only [tCode] at hk
    cases hq : tCode S cT n a t T with
    | none => rw [hq] at hk; cases hk
    | some p =>
      rw [hq] at hk
      obtain ⟨e1, H1, h1, h2, h3⟩ := iha _ _ _ _ _ he h hq
      simp only [Option.map_some, Option.some.injEq] at hk
      simp only [evCode, h1, Option.map_some]
      split at hk
      · rename_i hx
        subst hk
        exact ⟨e1, H1, by rw [if_pos hx], h2, h3⟩
      · rename_i hx
        subst hk
        exact ⟨e1, H1, by rw [if_neg hx], h2, h3⟩
  | loop a iha =>
    intro t e T H s he h hk
    simp only [tCode] at hk
    simp only [evCode]
    exact tLoop_ok iha n _ _ _ _ _ he h hk
  | back g p1 p2 a b iha ihb =>
    intro t e T H s he h hk
    simp only [tCode, tLd_ok h] at hk
    simp only [evCode]
    have hg : t.look g = e.get g := congrFun he g
    rw [hg] at hk
    cases h1 : bkCell S.B (e.get g) with
    | none => rw [h1] at hk; cases hk
    | some ad =>
      rw [h1] at hk
      simp only [Option.bind_some] at hk ⊢
      cases h2 : kLd H (.pointer (some ad)) with
      | none => rw [h2] at hk; cases hk
      | some x =>
        rw [h2] at hk
        simp only [Option.bind_some] at hk ⊢
        cases h3 : bkLen x with
        | none => rw [h3] at hk; cases hk
        | some m =>
          rw [h3] at hk
          simp only [Option.bind_some] at hk ⊢
          cases h4 : tBk (tRd (fun e T => tCode S cT n a e T) (fun e T => tCode S cT n b e T) t p1 p2 ad) m T with
          | none => rw [h4] at hk; cases hk
          | some r =>
            rw [h4] at hk; cases hk
            obtain ⟨H1, g1, g2⟩ := tBk_ok (tRd_ok iha ihb he p1 p2 ad) m _ _ _ h h4
            exact ⟨e, H1, by rw [g1]; rfl, he, g2⟩
theorem tResL_ok (he : ERl t e) (h : HRl T H) : ∀ rs, tResL t T rs = kResL e H rs
  | [] => rfl
  | r :: rs => by
    have h1 : tRes1 t T r = kRes1 e H r := by
      have hl : ∀ n, t.look n = e.get n := fun n => congrFun he n
      cases r with
      | t n => simp only [tRes1, kRes1, hl]
      | c1 a => simp only [tRes1, kRes1, hl, tLd_ok h]
      | cn a n => simp only [tRes1, kRes1, hl, tLdn_ok h]
    simp only [tResL, kResL, h1, tResL_ok he h rs]
theorem initT_ok : ∀ (l : List Value) (n : Nat) (t t' : ET), (∀ i, n ≤ i → t.look i = undef) → initT l n t = some t' → ∀ i, t'.look i = if i < n then t.look i else Env.get l (i - n)
  | [], n, t, t', hu, hk, i => by
    simp only [initT] at hk; cases hk
    by_cases hi : i < n
    · rw [if_pos hi]
    · rw [if_neg hi, hu i (by omega)]; rfl
  | v :: l, n, t, t', hu, hk, i => by
    simp only [initT] at hk
    cases hq : t.put n v with
    | none => rw [hq] at hk; cases hk
    | some t1 =>
      rw [hq] at hk
      simp only [Option.bind_some] at hk
      have hl : ∀ m, t1.look m = if m = n then v else t.look m := fun m => by
        unfold ET.put at hq
        cases hb : Nat.blt n 1000000 with
        | false => rw [hb] at hq; cases hq
        | true =>
          rw [hb] at hq; cases hq
          have hn : n < 1000000 := by simpa [Nat.blt_eq] using hb
          exact BT.get_set _ _ _ _ _ _ (by omega)
      have := initT_ok l (n + 1) t1 t' (fun i hi => by rw [hl, if_neg (by omega)]; exact hu i (by omega)) hk i
      rw [this]
      by_cases h1 : i < n
      · rw [if_pos (by omega), if_pos h1, hl, if_neg (by omega)]
      · rw [if_neg h1]
        by_cases h2 : i = n
        · rw [if_pos (by omega), hl, if_pos h2, h2, Nat.sub_self]; rfl
        · rw [if_neg (by omega)]
          have : i - n = (i - (n + 1)) + 1 := by omega
          rw [this]; rfl
structure RTok (S : Sys) (RT : FuncId → Option (List Value → HTr → Option (Value × HTr))) : Prop where
  s : ∀ f q, RT f = some q → ∃ p, S.R f = some p ∧ ∀ args T H r, HRl T H → q args T = some r → ∃ H', p args H = some (r.1, H') ∧ HRl r.2 H'
  n : ∀ f, RT f = none → S.R f = none
theorem evT_ok {RT : FuncId → Option (List Value → HTr → Option (Value × HTr))} (hR : RTok S RT) : ∀ n, CR (evT S RT n) (evFn S n)
  | 0, f, args, T, H, r, h, hk => by simp only [evT] at hk; cases hk
  | n + 1, f, args, T, H, r, h, hk => by
    simp only [evT] at hk
    simp only [evFn]
    cases hf : RT f with
    | some q =>
      rw [hf] at hk
      obtain ⟨p, hp, hq⟩ := hR.s f q hf
      rw [hp]
      exact hq _ _ _ _ h hk
    | none =>
      rw [hf] at hk
      rw [hR.n f hf]
      simp only at hk ⊢
      cases hF : S.F f with
      | none => rw [hF] at hk; cases hk
      | some k =>
        rw [hF] at hk
        simp only [Option.bind_some] at hk ⊢
        cases hi : initT args 0 .nil with
        | none => rw [hi] at hk; cases hk
        | some t =>
          rw [hi] at hk
          simp only [Option.bind_some] at hk
          have he : ERl t args := by
            funext i
            have := initT_ok args 0 .nil t (fun i _ => rfl) hi i
            rw [this, if_neg (by omega), Nat.sub_zero]
          cases hq : tCode S (evT S RT n) n k.body t T with
          | none => rw [hq] at hk; cases hk
          | some s =>
            rw [hq] at hk
            obtain ⟨e1, H1, h1, h2, h3⟩ := tCode_ok (evT_ok hR n) n k.body _ _ _ _ _ he h hq
            have h1 : evCode S (evFn S n) n k.body args H = some ⟨s.x, e1, H1⟩ := h1
            rw [h1]
            simp only [Option.bind_some] at hk ⊢
            have hres : (tResL s.e s.T k.res).map tup = kRes e1 H1 k.res := by rw [tResL_ok h2 h3]; rfl
            cases hx : s.x with
            | exit i => rw [hx] at hk; cases hk
            | normal =>
              rw [hx] at hk
              simp only [hres] at hk
              cases hr : kRes e1 H1 k.res with
              | none => rw [hr] at hk; cases hk
              | some w => rw [hr] at hk; cases hk; exact ⟨H1, rfl, h3⟩
            | ret =>
              rw [hx] at hk
              simp only [hres] at hk
              cases hr : kRes e1 H1 k.res with
              | none => rw [hr] at hk; cases hk
              | some w => rw [hr] at hk; cases hk; exact ⟨H1, rfl, h3⟩
end
end Go.Proofs.YtjgpbhodbgjggaaGreat.K
/- The evaluator by trees once more, by the types' own recursors and closed handlers: it is the same, and the kernel has less to do. -/
set_option linter.unusedVariables false
set_option linter.unusedSimpArgs false
set_option maxHeartbeats 4000000
set_option maxRecDepth 100000
namespace Go.Proofs.YtjgpbhodbgjggaaGreat.K
open Go
noncomputable def qGet {α : Type} (d : α) (t : BT α) : Nat → α := BT.rec (motive := fun _ => Nat → α) (fun _ => d) (fun x _ _ il ir n => Bool.rec (motive := fun _ => α) (Bool.rec (motive := fun _ => α) (ir (n / 2 - 1)) (il (n / 2)) (Nat.beq (n % 2) 1)) x (Nat.beq n 0)) t
theorem qGet_eq {α : Type} (d : α) : ∀ (t : BT α) (n : Nat), qGet d t n = BT.get d t n
  | .nil, n => rfl
  | .node x l r, n => by
    have hl := qGet_eq d l (n / 2)
    have hr := qGet_eq d r (n / 2 - 1)
    show Bool.rec (motive := fun _ => α) (Bool.rec (motive := fun _ => α) (qGet d r (n / 2 - 1)) (qGet d l (n / 2)) (Nat.beq (n % 2) 1)) x (Nat.beq n 0) = _
    rw [hl, hr, BT.get]
    cases Nat.beq n 0 <;> cases Nat.beq (n % 2) 1 <;> rfl
noncomputable def qSet {α : Type} (d : α) (f : Nat) : BT α → Nat → α → BT α := Nat.rec (motive := fun _ => BT α → Nat → α → BT α) (fun t _ _ => t)
  (fun _ ih t n v => BT.rec (motive := fun _ => BT α)
    (Bool.rec (motive := fun _ => BT α) (Bool.rec (motive := fun _ => BT α) (.node d .nil (ih .nil (n / 2 - 1) v)) (.node d (ih .nil (n / 2) v) .nil) (Nat.beq (n % 2) 1)) (.node v .nil .nil) (Nat.beq n 0))
    (fun x l r _ _ => Bool.rec (motive := fun _ => BT α) (Bool.rec (motive := fun _ => BT α) (.node x l (ih r (n / 2 - 1) v)) (.node x (ih l (n / 2) v) r) (Nat.beq (n % 2) 1)) (.node v l r) (Nat.beq n 0)) t) f
theorem qSet_eq {α : Type} (d : α) : ∀ (f : Nat) (t : BT α) (n : Nat) (v : α), qSet d f t n v = BT.set d f t n v
  | 0, t, n, v => by cases t <;> rfl
  | f + 1, .nil, n, v => by
    have h1 := qSet_eq d f .nil (n / 2) v
    have h2 := qSet_eq d f .nil (n / 2 - 1) v
    show Bool.rec (motive := fun _ => BT α) (Bool.rec (motive := fun _ => BT α) (.node d .nil (qSet d f .nil (n / 2 - 1) v)) (.node d (qSet d f .nil (n / 2) v) .nil) (Nat.beq (n % 2) 1)) (.node v .nil .nil) (Nat.beq n 0) = _
    rw [h1, h2, BT.set]
    cases Nat.beq n 0 <;> cases Nat.beq (n % 2) 1 <;> rfl
  | f + 1, .node x l r, n, v => by
    have h1 := qSet_eq d f l (n / 2) v
    have h2 := qSet_eq d f r (n / 2 - 1) v
    show Bool.rec (motive := fun _ => BT α) (Bool.rec (motive := fun _ => BT α) (.node x l (qSet d f r (n / 2 - 1) v)) (.node x (qSet d f l (n / 2) v) r) (Nat.beq (n % 2) 1)) (.node v l r) (Nat.beq n 0) = _
    rw [h1, h2, BT.set]
    cases Nat.beq n 0 <;> cases Nat.beq (n % 2) 1 <;> rfl
noncomputable def qLook (e : ET) (n : Nat) : Value := qGet undef e n
theorem qLook_eq (e : ET) (n : Nat) : qLook e n = e.look n := qGet_eq undef e n
noncomputable def qPut (e : ET) (n : Nat) (v : Value) : Option ET := Bool.rec (motive := fun _ => Option ET) none (some (qSet undef 20 e n v)) (Nat.blt n 1000000)
theorem qPut_eq (e : ET) (n : Nat) (v : Value) : qPut e n v = e.put n v := by
  unfold qPut ET.put
  rw [qSet_eq]
  cases Nat.blt n 1000000 <;> rfl
noncomputable def qev (e : ET) (x : Opd) : Value := Opd.rec (motive := fun _ => Value) (fun n => qLook e n) (fun v => v) x
theorem qev_eq (e : ET) (x : Opd) : qev e x = tev e x := by
  cases x with
  | t n => exact qLook_eq e n
  | c v => rfl
theorem qev_fn (e : ET) : qev e = tev e := funext (qev_eq e)
noncomputable def ob {α β : Type} (o : Option α) (f : α → Option β) : Option β := Option.rec (motive := fun _ => Option β) none f o
theorem ob_eq {α β : Type} (o : Option α) (f : α → Option β) : ob o f = o.bind f := by cases o <;> rfl
noncomputable def hGet (T : HTr) (i : Nat) : Blk := qGet Blk.dead T.t i
theorem hGet_eq (T : HTr) (i : Nat) : hGet T i = T.get i := qGet_eq Blk.dead T.t i
noncomputable def hPut (T : HTr) (i : Nat) (b : Blk) : Option HTr := Bool.rec (motive := fun _ => Option HTr) none (some ⟨qSet Blk.dead 20 T.t i b, T.n⟩) (Nat.blt i T.n && Nat.blt T.n 1000000)
theorem hPut_eq (T : HTr) (i : Nat) (b : Blk) : hPut T i b = T.put i b := by
  unfold hPut HTr.put
  rw [qSet_eq]
  cases (Nat.blt i T.n && Nat.blt T.n 1000000) <;> rfl
noncomputable def hPush (T : HTr) (b : Blk) : Option HTr := Bool.rec (motive := fun _ => Option HTr) none (some ⟨qSet Blk.dead 20 T.t T.n b, T.n + 1⟩) (Nat.blt T.n 1000000)
theorem hPush_eq (T : HTr) (b : Blk) : hPush T b = T.push b := by
  unfold hPush HTr.push
  rw [qSet_eq]
  cases Nat.blt T.n 1000000 <;> rfl
/- the handlers -/
abbrev QR := Option (Value × HTr)
noncomputable def q_mv (x : Opd) (e : ET) (T : HTr) (call : CallT) : QR := some (qev e x, T)
noncomputable def q_pick (c a b : Opd) (e : ET) (T : HTr) (call : CallT) : QR := match qev e c with
  | .bool t => some (Bool.rec (motive := fun _ => Value) (qev e b) (qev e a) t, T)
  | _ => none
noncomputable def q_bin (o : BinOp) (x y : Opd) (e : ET) (T : HTr) (call : CallT) : QR := ob (kBin o (qev e x) (qev e y)) fun v => some (v, T)
noncomputable def q_un (o : UnOp) (x : Opd) (e : ET) (T : HTr) (call : CallT) : QR := ob (kUn o (qev e x)) fun v => some (v, T)
noncomputable def q_cvt (k : IntKind) (x : Opd) (e : ET) (T : HTr) (call : CallT) : QR := match qev e x with
  | .int _ n => some (.int k (k.wrap n), T)
  | _ => none
noncomputable def q_fad (off : Nat) (x : Opd) (e : ET) (T : HTr) (call : CallT) : QR := match qev e x with
  | .pointer (some a) => some (.pointer (some (addOff a off)), T)
  | _ => none
noncomputable def q_iad (esz : Nat) (x i : Opd) (e : ET) (T : HTr) (call : CallT) : QR := match qev e x, qev e i with
  | .slice (some a) n _, .int _ i => if 0 ≤ i ∧ i < n then some (.pointer (some (addOff a (i.toNat * esz))), T) else none
  | _, _ => none
noncomputable def q_nck (x : Opd) (e : ET) (T : HTr) (call : CallT) : QR := match qev e x with
  | .pointer (some a) => some (.pointer (some a), T)
  | .func (.func f) a b => some (.func (.func f) a b, T)
  | _ => none
noncomputable def q_xt (x : Opd) (i : Nat) (e : ET) (T : HTr) (call : CallT) : QR := match qev e x with
  | .tuple vs => ob vs.toList[i]? fun v => some (v, T)
  | _ => none
noncomputable def q_lenL (x : Opd) (e : ET) (T : HTr) (call : CallT) : QR := match qev e x with
  | .slice _ n _ => some (.int .i64 n, T)
  | _ => none
noncomputable def q_ld (a : Opd) (e : ET) (T : HTr) (call : CallT) : QR := match qev e a with
  | .pointer (some a) => match hGet T a.block with
    | .cells c _ _ => ob c[a.off]? fun v => some (v, T)
    | _ => none
  | _ => none
noncomputable def q_st (a v : Opd) (e : ET) (T : HTr) (call : CallT) : QR := match qev e a with
  | .pointer (some a) => match hGet T a.block with
    | .cells c t true => if a.off < c.length && oneC (qev e v) then ob (hPut T a.block (.cells (c.set a.off (qev e v)) t true)) fun T' => some (noV, T') else none
    | _ => none
  | _ => none
noncomputable def q_call (f : FuncId) (args : List Opd) (e : ET) (T : HTr) (call : CallT) : QR := call f (args.map (qev e)) T
noncomputable def q_alloc (t : TypeId) (z : List Value) (e : ET) (T : HTr) (call : CallT) : QR := ob (hPush T (.cells z t true)) fun T' => some (.pointer (some ⟨T.n, 0, none⟩), T')
noncomputable def qExec (S : Sys) (o : KOp) : ET → HTr → CallT → QR := KOp.rec (motive := fun _ => ET → HTr → CallT → QR)
  q_mv q_pick q_alloc (fun t x e T _ => tkop (.box t x) e T) (fun z ps e T _ => tkop (.build z ps) e T) (fun t n z ps e T _ => tkop (.bsl t n z ps) e T)
  q_ld (fun n a e T _ => tkop (.ldn n a) e T) q_st (fun n a v e T _ => tkop (.stn n a v) e T) q_nck q_bin (fun k n x y e T _ => tkop (.eqv k n x y) e T) q_un q_cvt
  (fun t x e T _ => tkop (.s2b t x) e T) (fun t x e T _ => tkop (.b2s t x) e T) (fun t x e T _ => tkop (.mki t x) e T) (fun f a b e T _ => tkop (.mkf f a b) e T) (fun e T _ => tkop .mkm e T)
  (fun t z b l c e T _ => tkop (.mks t z b l c) e T) (fun x l h e T _ => tkop (.slS x l h) e T) (fun t z x l h e T _ => tkop (.slc t z x l h) e T) (fun t n z x l h e T _ => tkop (.sla t n z x l h) e T)
  q_fad (fun o x e T _ => tkop (.fld o x) e T) (fun o n x e T _ => tkop (.fldn o n x) e T) q_iad (fun n z x i e T _ => tkop (.iada n z x i) e T) (fun x i e T _ => tkop (.idS x i) e T)
  (fun n x i e T _ => tkop (.ida n x i) e T) (fun n z x i e T _ => tkop (.idan n z x i) e T) q_xt (fun x e T _ => tkop (.lenS x) e T) q_lenL (fun x e T _ => tkop (.lenM x) e T)
  (fun x l e T _ => tkop (.mx x l) e T) (fun x l e T _ => tkop (.mn x l) e T) (fun t z b x y e T _ => tkop (.app t z b x y) e T) (fun t x y e T _ => tkop (.appS t x y) e T)
  (fun t z x y e T _ => tkop (.cpy t z x y) e T) (fun k m x e T _ => tkop (.del k m x) e T) (fun k z o m x e T _ => tkop (.lkp k z o m x) e T) (fun k m x v e T _ => tkop (.mup k m x v) e T)
  (fun k z m x e T _ => tkop (.men k z m x) e T) (fun m s v e T _ => tkop (.mes m s v) e T) (fun t z o x e T _ => tkop (.tas t z o x) e T)
  q_call (fun f a e T c => tExec S c (.callp f a) e T) (fun f a e T c => tExec S c (.callv f a) e T) (fun r n a e T c => tExec S c (.inv r n a) e T) (fun e T _ => tkop .nev e T) o
theorem evsub (e : ET) (x : Opd) : Env.ev [] (subO e.look x) = tev e x := by cases x <;> rfl
theorem qExec_eq (S : Sys) (o : KOp) (e : ET) (T : HTr) (call : CallT) : qExec S o e T call = tExec S call o e T := by
  cases o <;> first
    | rfl
    | skip
  case mv x =>
    show q_mv x e T call = _
    simp only [q_mv, tExec, tkop, pureO, if_true, sub, kop, evsub, qev_eq, Option.map_some]
  case pick c a b =>
    show q_pick c a b e T call = _
    simp only [q_pick, tExec, tkop, pureO, if_true, sub, kop, evsub, qev_eq]
    cases tev e c <;> try rfl
    case bool t => cases t <;> rfl
  case alloc t z =>
    show q_alloc t z e T call = _
    simp only [q_alloc, tExec, tkop, ob_eq, hPush_eq]
    cases T.push (.cells z t true) <;> rfl
  case ld a =>
    show q_ld a e T call = _
    simp only [q_ld, tExec, tkop, qev_eq, tLd, hGet_eq, ob_eq]
    cases tev e a <;> try rfl
    case pointer a =>
      cases a with
      | none => rfl
      | some a =>
        simp only
        cases T.get a.block <;> try rfl
        case cells c _ _ => simp only; cases c[a.off]? <;> rfl
  case st a v =>
    show q_st a v e T call = _
    simp only [q_st, tExec, tkop, qev_eq, tSt, hGet_eq, hPut_eq, ob_eq]
    cases tev e a <;> try rfl
    case pointer a =>
      cases a with
      | none => rfl
      | some a =>
        simp only
        cases T.get a.block <;> try rfl
        case cells c t rw =>
          cases rw with
          | false => rfl
          | true =>
            simp only
            split
            · cases T.put a.block (.cells (c.set a.off (tev e v)) t true) <;> rfl
            · rfl
  case nck x =>
    show q_nck x e T call = _
    simp only [q_nck, tExec, tkop, pureO, if_true, sub, kop, evsub, qev_eq]
    cases tev e x <;> try rfl
    case pointer a => cases a <;> rfl
    case func f _ _ => cases f <;> rfl
  case bin o x y =>
    show q_bin o x y e T call = _
    simp only [q_bin, tExec, tkop, pureO, if_true, sub, kop, evsub, qev_eq, ob_eq]
    cases kBin o (tev e x) (tev e y) <;> rfl
  case un o x =>
    show q_un o x e T call = _
    simp only [q_un, tExec, tkop, pureO, if_true, sub, kop, evsub, qev_eq, ob_eq]
    cases kUn o (tev e x) <;> rfl
  case cvt k x =>
    show q_cvt k x e T call = _
    simp only [q_cvt, tExec, tkop, pureO, if_true, sub, kop, evsub, qev_eq]
    cases tev e x <;> rfl
  case fad n x =>
    show q_fad n x e T call = _
    simp only [q_fad, tExec, tkop, pureO, if_true, sub, kop, evsub, qev_eq]
    cases tev e x <;> try rfl
    case pointer a => cases a <;> rfl
  case iad z x i =>
    show q_iad z x i e T call = _
    simp only [q_iad, tExec, tkop, pureO, if_true, sub, kop, evsub, qev_eq]
    cases tev e x <;> try rfl
    case slice a n c =>
      cases a with
      | none => rfl
      | some a =>
        cases tev e i <;> try rfl
        case int k j =>
          simp only
          split <;> rfl
  case xt x i =>
    show q_xt x i e T call = _
    simp only [q_xt, tExec, tkop, pureO, if_true, sub, kop, evsub, qev_eq, ob_eq]
    cases tev e x <;> try rfl
    case tuple vs => simp only; cases vs.toList[i]? <;> rfl
  case lenL x =>
    show q_lenL x e T call = _
    simp only [q_lenL, tExec, tkop, pureO, if_true, sub, kop, evsub, qev_eq]
    cases tev e x <;> rfl
  case call f a =>
    show q_call f a e T call = _
    simp only [q_call, tExec, qev_fn]
/- steps -/
noncomputable def qWants (e : ET) (g : Option (Nat × Bool)) : Bool := Option.rec (motive := fun _ => Bool) true (fun p => match qLook e p.1 with
  | .bool b => b == p.2
  | _ => false) g
theorem qWants_eq (e : ET) (g : Option (Nat × Bool)) : qWants e g = wantsT e g := by
  cases g with
  | none => rfl
  | some p => simp only [qWants, wantsT, qLook_eq] <;> rfl
noncomputable def qPutO (t : ET) (d : Option Nat) (v : Value) : Option ET := Option.rec (motive := fun _ => Option ET) (some t) (fun d => qPut t d v) d
theorem qPutO_eq (t : ET) (d : Option Nat) (v : Value) : qPutO t d v = putO t d v := by
  cases d with
  | none => rfl
  | some d => exact qPut_eq t d v
abbrev QE := Option (ET × HTr)
noncomputable def q_op (dst : Option Nat) (g : Option (Nat × Bool)) (o : KOp) (S : Sys) (call : CallT) (e : ET) (T : HTr) : QE :=
  Bool.rec (motive := fun _ => QE) (ob (qPutO e dst undef) fun e' => some (e', T)) (ob (qExec S o e T call) fun p => ob (qPutO e dst p.1) fun e' => some (e', p.2)) (qWants e g)
noncomputable def q_chk (dst : Nat) (g : Option (Nat × Bool)) (o : KOp) (S : Sys) (call : CallT) (e : ET) (T : HTr) : QE :=
  Bool.rec (motive := fun _ => QE) (some (e, T)) (ob (tkop o e T) fun p => Bool.rec (motive := fun _ => QE) none (some (e, T)) (veq p.1 (qLook e dst))) (qWants e g)
noncomputable def qStep (s : KStep) : Sys → CallT → ET → HTr → QE := KStep.rec (motive := fun _ => Sys → CallT → ET → HTr → QE) q_op q_chk s
theorem qStep_eq (S : Sys) (call : CallT) (s : KStep) (e : ET) (T : HTr) : qStep s S call e T = tStep S call s e T := by
  cases s with
  | op d g o =>
    show q_op d g o S call e T = _
    simp only [q_op, tStep, ob_eq, qPutO_eq, qExec_eq, qWants_eq]
    cases wantsT e g with
    | true =>
      simp only [if_true]
      congr 1
      funext p
      cases putO e d p.1 <;> rfl
    | false => cases putO e d undef <;> rfl
  | chk d g o =>
    show q_chk d g o S call e T = _
    simp only [q_chk, tStep, ob_eq, qLook_eq, qWants_eq]
    cases wantsT e g with
    | true =>
      simp only [if_true]
      congr 1
      funext p
      cases veq p.1 (e.look d) <;> rfl
    | false => rfl
noncomputable def qSteps (l : List KStep) : Sys → CallT → ET → HTr → QE := List.rec (motive := fun _ => Sys → CallT → ET → HTr → QE) (fun _ _ e T => some (e, T)) (fun s _ ih S call e T => ob (qStep s S call e T) fun p => ih S call p.1 p.2) l
theorem qSteps_eq (S : Sys) (call : CallT) : ∀ (l : List KStep) (e : ET) (T : HTr), qSteps l S call e T = tSteps S call l e T
  | [], e, T => rfl
  | s :: l, e, T => by
    show ob (qStep s S call e T) (fun p => qSteps l S call p.1 p.2) = _
    rw [ob_eq, qStep_eq]
    simp only [tSteps, qSteps_eq S call l]
abbrev QK := Option KStT
abbrev QM := Sys → CallT → Nat → ET → HTr → QK
noncomputable def qLoop (f : ET → HTr → QK) (n : Nat) : ET → HTr → QK := Nat.rec (motive := fun _ => ET → HTr → QK) (fun _ _ => none) (fun _ ih e T => ob (f e T) fun s => KExit.rec (motive := fun _ => QK) (ih s.e s.T) (fun _ => some s) (some s) s.x) n
theorem qLoop_eq (f : ET → HTr → QK) : ∀ (n : Nat) (e : ET) (T : HTr), qLoop f n e T = tLoop f n e T
  | 0, e, T => rfl
  | n + 1, e, T => by
    show ob (f e T) (fun s => KExit.rec (motive := fun _ => QK) (qLoop f n s.e s.T) (fun _ => some s) (some s) s.x) = _
    rw [ob_eq]
    simp only [tLoop, qLoop_eq f n]
    congr 1
    funext s
    cases s.x <;> rfl
noncomputable def c_reg (l : List KStep) : QM := fun S call n e T => ob (qSteps l S call e T) fun p => some ⟨.normal, p.1, p.2⟩
noncomputable def c_seq (a b : KCode) (iha ihb : QM) : QM := fun S call n e T => ob (iha S call n e T) fun s => KExit.rec (motive := fun _ => QK) (ihb S call n s.e s.T) (fun _ => some s) (some s) s.x
noncomputable def c_cond (c : Opd) (a b : KCode) (iha ihb : QM) : QM := fun S call n e T => match qev e c with
  | .bool t => Bool.rec (motive := fun _ => QK) (ihb S call n e T) (iha S call n e T) t
  | _ => none
noncomputable def c_block (id : Nat) (a : KCode) (iha : QM) : QM := fun S call n e T => ob (iha S call n e T) fun s => KExit.rec (motive := fun _ => QK) (some s) (fun j => Bool.rec (motive := fun _ => QK) (some s) (some ⟨.normal, s.e, s.T⟩) (Nat.beq j id)) (some s) s.x
noncomputable def c_loop (a : KCode) (iha : QM) : QM := fun S call n e T => qLoop (fun e T => iha S call n e T) n e T
noncomputable def c_back (g p1 p2 : Nat) (a b : KCode) (iha ihb : QM) : QM := fun S call n e T => (bkCell S.B (e.look g)).bind fun c => (tLd T (.pointer (some c))).bind fun v => (bkLen v).bind fun l =>
    (tBk (tRd (fun e T => iha S call n e T) (fun e T => ihb S call n e T) e p1 p2 c) l T).map fun r => ⟨r.1, e, r.2⟩
noncomputable def qCode (k : KCode) : QM := KCode.rec (motive := fun _ => QM) (fun _ _ _ e T => some ⟨.normal, e, T⟩) c_reg c_seq c_cond c_block c_loop (fun id _ _ _ e T => some ⟨.exit id, e, T⟩) (fun _ _ _ e T => some ⟨.ret, e, T⟩) (fun _ _ _ _ _ => none) (fun _ _ _ _ _ _ _ _ _ _ => none) c_back k
theorem qCode_eq (S : Sys) (call : CallT) (n : Nat) : ∀ (k : KCode) (e : ET) (T : HTr), qCode k S call n e T = tCode S call n k e T := by
  intro k
  induction k with
  | skip => intro e T; rfl
  | exit i => intro e T; rfl
  | ret => intro e T; rfl
  | nev => intro e T; rfl
  | mdec _ _ _ _ _ => intro e T; rfl
  | reg l =>
    intro e T
    show c_reg l S call n e T = _
    simp only [c_reg, tCode, ob_eq, qSteps_eq]
    cases tSteps S call l e T <;> rfl
  | seq a b iha ihb =>
    intro e T
    show c_seq a b (qCode a) (qCode b) S call n e T = _
    simp only [c_seq, tCode, ob_eq, iha, ihb]
    congr 1
    funext s
    cases s.x <;> rfl
  | cond c a b iha ihb =>
    intro e T
    show c_cond c a b (qCode a) (qCode b) S call n e T = _
    simp only [c_cond, tCode, qev_eq, iha, ihb]
    cases tev e c <;> try rfl
    case bool t => cases t <;> rfl
  | block id a iha =>
    intro e T
    show c_block id a (qCode a) S call n e T = _
    simp only [c_block, tCode, ob_eq, iha]
    cases tCode S call n a e T with
    | none => rfl
    | some s =>
      simp only [Option.bind_some, Option.map_some]
      cases hx : s.x with
      | normal => rw [if_neg (by simp)]
      | ret => rw [if_neg (by simp)]
      | exit j =>
        by_cases hj : j = id
        · subst hj
          have : Nat.beq j j = true := Nat.beq_refl j
          rw [if_pos rfl]
          simp only [this]
        · have : Nat.beq j id = false := by
            cases h1 : Nat.beq j id with
            | true => exact absurd (Nat.eq_of_beq_eq_true h1) hj
            | false => rfl
          rw [if_neg (by simpa using hj)]
          simp only [this]
  | loop a iha =>
    intro e T
    show c_loop a (qCode a) S call n e T = _
    simp only [c_loop, tCode, qLoop_eq, iha]
  | back g p1 p2 a b iha ihb =>
    intro e T
    show c_back g p1 p2 a b (qCode a) (qCode b) S call n e T = _
    simp only [c_back, tCode, iha, ihb]
noncomputable def evQ (S : Sys) (RT : FuncId → Option (List Value → HTr → Option (Value × HTr))) (n : Nat) : CallT := Nat.rec (motive := fun _ => CallT) (fun _ _ _ => none)
  (fun n ih f args T => Option.rec (motive := fun _ => QR) (ob (S.F f) fun k => ob (initT args 0 .nil) fun e => ob (qCode k.body S ih n e T) fun s => KExit.rec (motive := fun _ => QR) (ob (tResL s.e s.T k.res) fun r => some (tup r, s.T)) (fun _ => none) (ob (tResL s.e s.T k.res) fun r => some (tup r, s.T)) s.x) (fun q => q args T) (RT f)) n
theorem evQ_eq (S : Sys) (RT : FuncId → Option (List Value → HTr → Option (Value × HTr))) : ∀ n, evQ S RT n = evT S RT n
  | 0 => rfl
  | n + 1 => by
    funext f args T
    have ih := evQ_eq S RT n
    show Option.rec (motive := fun _ => QR) (ob (S.F f) fun k => ob (initT args 0 .nil) fun e => ob (qCode k.body S (evQ S RT n) n e T) fun s => KExit.rec (motive := fun _ => QR) (ob (tResL s.e s.T k.res) fun r => some (tup r, s.T)) (fun _ => none) (ob (tResL s.e s.T k.res) fun r => some (tup r, s.T)) s.x) (fun q => q args T) (RT f) = _
    simp only [evT, ob_eq, qCode_eq, ih]
    cases RT f with
    | some q => rfl
    | none =>
      simp only
      congr 1
      funext k
      congr 1
      funext e
      congr 1
      funext s
      cases s.x <;> (try rfl) <;> (simp only; cases tResL s.e s.T k.res <;> rfl)
/-- what the evaluator gives holds of the code -/
theorem wf_of_q {S : Sys} {RT : FuncId → Option (List Value → HTr → Option (Value × HTr))} (hR : RTok S RT) {f : FuncId} {args : List Value} {n : Nat} {v : Value} (h : (evQ S RT n f args T0).map (fun p => p.1) = some v) : Wf S f args [] fun w _ => w = v := by
  rw [evQ_eq] at h
  cases hq : evT S RT n f args T0 with
  | none => rw [hq] at h; cases h
  | some r =>
    rw [hq] at h
    cases h
    obtain ⟨H', h1, _⟩ := evT_ok hR n f args T0 [] r T0_ok hq
    exact ⟨n, r.1, H', h1, rfl⟩
end Go.Proofs.YtjgpbhodbgjggaaGreat.K
/- Functions that are told by what K's code of them gives: by a walk, or by an evaluation. -/
set_option linter.unusedVariables false
namespace Go.Proofs.YtjgpbhodbgjggaaGreat.K
open Go
section
variable {P : Program} {S : Sys} {f : FuncId}
theorem prim_of_wf (hS : SysOK P S) {p : List Value → Heap → Option (Value × Heap)} (hf : okFunc P f = true) (hp : ∀ args H v H', p args H = some (v, H') → Wf S f args H fun w K => w = v ∧ K = H') : PrimOK P f p := by
  refine ⟨hf, fun B w0 args H v H' h ρ w cargs hrel hv => ?_⟩
  obtain ⟨n, v', H2, h1, rfl, rfl⟩ := hp args H v H' h
  exact (fn_ok hS n f args H _ _ h1).2 ρ w cargs hrel hv
/-- a function without arguments, run once on no memory -/
def prim0 (v : Value) : List Value → Heap → Option (Value × Heap)
  | [], H => some (v, H)
  | _, _ => none
theorem prim0_ok (hS : SysOK P S) {v : Value} (hg : gndV v = true) (hf : okFunc P f = true) (hw : Wf S f [] [] fun w _ => w = v) : PrimOK P f (prim0 v) := by
  refine ⟨hf, fun B w0 args H v1 H1 h ρ w cargs hrel hv => ?_⟩
  obtain ⟨n, v', H2, h1, rfl⟩ := hw
  cases args with
  | cons a l => cases h
  | nil =>
    cases h
    have hvl : VL P [] [] cargs := ⟨hv.1, fun i x y hx => by simp at hx⟩
    refine ((fn_ok (B := Fz.lo w.heap.size) (w0 := w) hS n f [] [] _ _ h1).2 [] w cargs (HRel.nil w) hvl).mono ?_
    rintro e' w' ⟨ρ', cv, rfl, _, hvv, hH⟩
    have := gndV_eq hg hvv
    subst this
    exact ⟨ρ, cv, rfl, List.prefix_refl _, gndV_rel hg, hrel.world (hH.below.mono fun k hk => .inl (hrel.base k hk)) (fun i hi => hH.below.block i (.inl hi))⟩
end
theorem heap_ext {A B : Heap} (hn : A.next = B.next) (h : ∀ i, i < A.next → A.get i = B.get i) : A = B := by
  unfold Heap.next at hn h
  apply List.ext_getElem hn
  intro i h1 h2
  have := h i h1
  rw [Heap.get_eq, Heap.get_eq, List.getElem?_eq_getElem h1, List.getElem?_eq_getElem h2] at this
  exact this
end Go.Proofs.YtjgpbhodbgjggaaGreat.K
