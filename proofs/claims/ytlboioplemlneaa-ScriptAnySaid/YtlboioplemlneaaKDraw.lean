/- A region whose order Go leaves open: one order is run, reads are looked at again behind what might have turned them; then every order comes to the same. -/
import Derived.Test.YtlboioplemlneaaKRun
set_option linter.unusedVariables false
set_option linter.unusedSimpArgs false
namespace Go.Proofs.Ytlboioplemlneaa.K
open Go Go.RowKit

inductive Cls where
  | pure | read | eff
  deriving DecidableEq

def cls : KOp → Cls
  | .mv _ | .pick _ _ _ | .build _ _ | .nck _ | .bin _ _ _ | .eqv _ _ _ _ | .un _ _ | .cvt _ _ | .mki _ _ | .mkf _ _ _ | .slS _ _ _ | .fad _ _ | .fld _ _ | .fldn _ _ _ | .iad _ _ _ | .iada _ _ _ _ | .idS _ _
  | .ida _ _ _ | .idan _ _ _ _ | .xt _ _ | .lenS _ | .lenL _ | .mx _ _ | .mn _ _ | .tas _ _ _ _ | .callp _ _ => .pure
  | .ld _ | .ldn _ _ | .b2s _ _ | .slc _ _ _ _ _ | .lenM _ | .lkp _ _ _ _ _ => .read
  | _ => .eff

def optL : Option Opd → List Opd
  | none => []
  | some x => [x]
def KOp.opds : KOp → List Opd
  | .mv x | .box _ x | .ld x | .ldn _ x | .nck x | .un _ x | .cvt _ x | .s2b _ x | .b2s _ x | .mki _ x | .fad _ x | .fld _ x | .fldn _ _ x | .xt x _ | .lenS x | .lenL x | .lenM x | .tas _ _ _ x => [x]
  | .pick a b c | .mup _ a b c | .mes a b c => [a, b, c]
  | .alloc _ _ | .mkm | .nev => []
  | .build _ ps | .bsl _ _ _ ps => ps.map (·.2.2)
  | .st a b | .stn _ a b | .bin _ a b | .eqv _ _ a b | .mks _ _ _ a b | .iad _ a b | .iada _ _ a b | .idS a b | .ida _ a b | .idan _ _ a b | .app _ _ _ a b | .appS _ a b | .cpy _ _ a b | .del _ a b | .lkp _ _ _ a b
  | .men _ _ a b => [a, b]
  | .mkf _ a b => a ++ b
  | .slS x lo hi | .slc _ _ x lo hi => x :: (optL lo ++ optL hi)
  | .mx x xs | .mn x xs => x :: xs
  | .call _ xs | .callp _ xs => xs
  | .callv x xs | .inv x _ xs => x :: xs

def Opd.slot : Opd → Option Nat
  | .t n => some n
  | .c _ => none

theorem exec_congr (S : Sys) (call : CallO) {k : KOp} {e e2 : Env} (H : Heap) (h : ∀ x ∈ k.opds, e.ev x = e2.ev x) : kExec S call k e H = kExec S call k e2 H := by
  have hm : ∀ xs : List Opd, (∀ x ∈ xs, e.ev x = e2.ev x) → xs.map e.ev = xs.map e2.ev := fun xs hx => List.map_congr_left hx
  have hp : ∀ ps : List (Nat × Nat × Opd), (∀ x ∈ ps.map (·.2.2), e.ev x = e2.ev x) → evPs e ps = evPs e2 ps := fun ps hx => by
    unfold evPs
    refine List.map_congr_left fun p hpm => ?_
    rw [hx p.2.2 (List.mem_map.2 ⟨p, hpm, rfl⟩)]
  have hi : ∀ (d : Int) (o : Option Opd), (∀ x ∈ optL o, e.ev x = e2.ev x) → evI e d o = evI e2 d o := fun d o hx => by
    cases o with
    | none => rfl
    | some x => simp only [evI, hx x (by simp [optL])]
  cases k <;> simp only [KOp.opds] at h <;> simp only [kExec, kop]
  case build z ps => rw [hp ps h]
  case bsl t l z ps => rw [hp ps h]
  case mkf f a b => rw [hm a (fun x hx => h x (by simp [hx])), hm b (fun x hx => h x (by simp [hx]))]
  case slS x lo hi' => rw [h x (by simp), hi _ lo (fun y hy => h y (by simp [hy]))]; simp only [hi _ hi' (fun y hy => h y (by simp [hy]))]
  case slc t n x lo hi' =>
    rw [h x (by simp), hi _ lo (fun y hy => h y (by simp [hy]))]
    cases hi' with
    | none => rfl
    | some y => simp only [hi 0 (some y) (fun z hz => h z (by simp [hz]))]
  case mx x xs => rw [h x (by simp), hm xs (fun y hy => h y (by simp [hy]))]
  case mn x xs => rw [h x (by simp), hm xs (fun y hy => h y (by simp [hy]))]
  case call f xs => rw [hm xs h]
  case callp f xs => rw [hm xs h]
  case callv x xs => rw [h x (by simp), hm xs (fun y hy => h y (by simp [hy]))]
  case inv x n xs => rw [h x (by simp), hm xs (fun y hy => h y (by simp [hy]))]
  all_goals simp_all

theorem pure_any0 {k : KOp} (hc : cls k = .pure) {e : Env} {H H' : Heap} {v : Value} (h : kop k e H = some (v, H')) : H' = H ∧ ∀ H2, kop k e H2 = some (v, H2) := by
  cases k <;> simp only [cls] at hc <;> try (cases hc; done)
  case callp f args => cases h
  all_goals
    simp only [kop] at h ⊢
    first
      | (simp only [Option.some.injEq, Prod.mk.injEq] at h; obtain ⟨rfl, rfl⟩ := h; exact ⟨rfl, fun _ => rfl⟩)
      | (simp only [Option.map_eq_some_iff, Prod.mk.injEq] at h; obtain ⟨r, hr, rfl, rfl⟩ := h; exact ⟨rfl, fun _ => by simp [hr]⟩)
      | (split at h <;> first
          | (cases h; done)
          | (simp only [Option.some.injEq, Prod.mk.injEq] at h; obtain ⟨rfl, rfl⟩ := h; exact ⟨rfl, fun _ => rfl⟩)
          | (rename_i hq; simp only [Option.some.injEq, Prod.mk.injEq] at h; obtain ⟨rfl, rfl⟩ := h; exact ⟨rfl, fun _ => by simp [hq]⟩)
          | (simp only [Option.map_eq_some_iff, Prod.mk.injEq] at h; obtain ⟨r, hr, rfl, rfl⟩ := h; exact ⟨rfl, fun _ => by simp [hr]⟩)
          | (simp only [Option.bind_eq_some_iff, Option.map_eq_some_iff, Prod.mk.injEq] at h; obtain ⟨a, ha, b, hb, r, hr, rfl, rfl⟩ := h; exact ⟨rfl, fun _ => by simp [ha, hb, hr]⟩)
          | (split at h <;> first
              | (cases h; done)
              | (rename_i hq; simp only [Option.some.injEq, Prod.mk.injEq] at h; obtain ⟨rfl, rfl⟩ := h; exact ⟨rfl, fun _ => by simp [hq]⟩)
              | (rename_i hq; simp only [Option.map_eq_some_iff, Prod.mk.injEq] at h; obtain ⟨r, hr, rfl, rfl⟩ := h; exact ⟨rfl, fun _ => by simp [hq, hr]⟩)))
      | (unfold kTas at h ⊢
         split at h <;> first
          | (cases h; done)
          | (split at h <;> first
              | (cases h; done)
              | (rename_i hq; simp only [Option.some.injEq, Prod.mk.injEq] at h; obtain ⟨rfl, rfl⟩ := h; exact ⟨rfl, fun _ => by simp [hq]⟩)
              | (split at h <;> first
                  | (cases h; done)
                  | (rename_i hq1 hq2; simp only [Option.some.injEq, Prod.mk.injEq] at h; obtain ⟨rfl, rfl⟩ := h; exact ⟨rfl, fun _ => by simp [hq1, hq2]⟩))))

theorem pure_any {S : Sys} {call : CallO} {k : KOp} (hc : cls k = .pure) {e : Env} {H H' : Heap} {v : Value} (h : kExec S call k e H = some (v, H')) : H' = H ∧ ∀ H2, kExec S call k e H2 = some (v, H2) := by
  cases k <;> first
    | (cases hc; done)
    | exact pure_any0 hc h
    | skip
  rename_i f args
  simp only [kExec] at h ⊢
  split at h
  · rename_i hg
    simp only [Option.bind_eq_some_iff] at h
    obtain ⟨p, h1, h⟩ := h
    split at h
    · rename_i hv
      simp only [Option.some.injEq, Prod.mk.injEq] at h
      obtain ⟨rfl, rfl⟩ := h
      exact ⟨rfl, fun H2 => by rw [if_pos hg, h1]; simp [hv]⟩
    · cases h
  · cases h
theorem read_same {k : KOp} (hc : cls k = .read) {e : Env} {H H' : Heap} {v : Value} (h : kop k e H = some (v, H')) : H' = H := by
  cases k <;> simp only [cls] at hc <;> try (cases hc; done)
  case ld a => simp only [kop, Option.map_eq_some_iff, Prod.mk.injEq] at h; obtain ⟨r, hr, rfl, rfl⟩ := h; rfl
  case ldn n a => simp only [kop, Option.map_eq_some_iff, Prod.mk.injEq] at h; obtain ⟨r, hr, rfl, rfl⟩ := h; rfl
  case lenM a => simp only [kop, Option.map_eq_some_iff, Prod.mk.injEq] at h; obtain ⟨r, hr, rfl, rfl⟩ := h; rfl
  case b2s t x =>
    simp only [kop] at h
    split at h
    · simp only [Option.bind_eq_some_iff, Option.map_eq_some_iff, Prod.mk.injEq] at h; obtain ⟨l, hl, r, hr, rfl, rfl⟩ := h; rfl
    · cases h
  case slc t n x lo hi =>
    simp only [kop, Option.bind_eq_some_iff] at h
    obtain ⟨l, hl, h⟩ := h
    cases hi with
    | none => simp only [Option.map_eq_some_iff, Prod.mk.injEq] at h; obtain ⟨r, hr, rfl, rfl⟩ := h; rfl
    | some y => simp only [Option.bind_eq_some_iff, Option.map_eq_some_iff, Prod.mk.injEq] at h; obtain ⟨a, ha, r, hr, rfl, rfl⟩ := h; rfl
  case lkp kk z ok m kx =>
    simp only [kop, Option.bind_eq_some_iff] at h
    obtain ⟨p, hp, h⟩ := h
    split at h
    · simp only [Option.map_eq_some_iff] at h
      obtain ⟨r, hr, h⟩ := h
      split at h <;> (simp only [Prod.mk.injEq] at h; exact h.2.symm)
    · cases h

theorem veq1_eq {x y : Value} (h : veq1 x y = true) : x = y := by
  cases x <;> cases y <;> simp_all [veq1]
theorem veqL_eq : ∀ {xs ys : List Value}, veqL xs ys = true → xs = ys
  | [], [], _ => rfl
  | [], _ :: _, h => by simp [veqL] at h
  | _ :: _, [], h => by simp [veqL] at h
  | x :: xs, y :: ys, h => by
    simp only [veqL, Bool.and_eq_true] at h
    rw [veq1_eq h.1, veqL_eq h.2]
theorem veq_eq {x y : Value} (h : veq x y = true) : x = y := by
  unfold veq at h
  split at h
  · rw [Array.ext' (veqL_eq h)]
  · exact veq1_eq h

/- THE PLAN: the order that is run; behind each operation the reads that are looked at again -/
def KStep.dst : KStep → Option Nat
  | .op d _ _ => d
  | .chk d _ _ => some d
def KStep.g : KStep → Option (Nat × Bool)
  | .op _ g _ => g
  | .chk _ g _ => g
def KStep.k : KStep → KOp
  | .op _ _ k => k
  | .chk _ _ k => k
def guardL : Option (Nat × Bool) → List Nat
  | none => []
  | some (s, _) => [s]
/-- what a step looks at, and what it writes -/
def KStep.reads (s : KStep) : List Nat := s.k.opds.filterMap Opd.slot ++ guardL s.g
def KStep.names (s : KStep) : List Nat := s.dst.toList ++ s.reads

def mask1 (ms : List Nat) (o : Oper) : Nat := o.after.toList.foldl (fun s e => if Region.binds .any e then s ||| 2 ^ e.on ||| ms.getD e.on 0 else s) 0
def masks (ops : List Oper) : List Nat := ops.foldl (fun ms o => ms ++ [mask1 ms o]) []
def bef (ms : List Nat) (i j : Nat) : Bool := (ms.getD j 0).testBit i

def chkOf : KStep → Option KStep
  | .op (some d) g k => some (.chk d g k)
  | _ => none

def planSteps (ks : List KStep) : List (Nat × List Nat) → Option (List KStep)
  | [] => some []
  | (i, cs) :: pl => (ks[i]?).bind fun s => (cs.mapM fun j => (ks[j]?).bind chkOf).bind fun l => (planSteps ks pl).map fun r => s :: (l ++ r)

/-- the order: what only looks, as soon as it may; then what acts -/
def nextOp (ks : List KStep) (ops : List Oper) (done : List Nat) : Option Nat :=
  let ready := (List.range ks.length).filter fun j => !done.contains j && ((ops[j]?).map fun o => o.after.all fun e => !Region.binds .any e || done.contains e.on).getD false
  match ready.find? fun j => ((ks[j]?).map fun s => decide (cls s.k ≠ .eff)).getD false with
  | some j => some j
  | none => ready.head?
def mkPlan (ks : List KStep) (ops : List Oper) (ms : List Nat) : Nat → List Nat → List (Nat × List Nat)
  | 0, _ => []
  | n + 1, done => match nextOp ks ops done with
    | none => []
    | some x =>
      let cs := if ((ks[x]?).map fun s => decide (cls s.k = .eff)).getD false then
          done.filter fun j => ((ks[j]?).map fun s => decide (cls s.k = .read)).getD false && !bef ms j x else []
      (x, cs) :: mkPlan ks ops ms n (done ++ [x])

def stepAt (ks : List KStep) (i : Nat) : KStep := ks.getD i (.op none none .mkm)

def planOk (ks : List KStep) (ops : List Oper) (ms : List Nat) (pl : List (Nat × List Nat)) : Bool :=
  let n := ks.length
  let π := pl.map (·.1)
  let ix := List.range n
  decide (ops.length = n) && decide (π.length = n) && ix.all (fun i => π.contains i) && decide π.Nodup && π.all (fun i => decide (i < n)) &&
  ix.all (fun j => match ops[j]? with
    | some o => decide (ms.getD j 0 = mask1 ms o) && o.after.all fun e => !Region.binds .any e || (decide (e.on < j) && decide (π.idxOf e.on < π.idxOf j))
    | none => false) &&
  ix.all (fun i => match (stepAt ks i).dst with
    | none => true
    | some d => ix.all fun j => i == j || !(stepAt ks j).names.contains d || bef ms i j || bef ms j i) &&
  ix.all (fun i => cls (stepAt ks i).k != .eff || ix.all fun j => i == j || cls (stepAt ks j).k != .eff || bef ms i j || bef ms j i) &&
  ix.all (fun j => cls (stepAt ks j).k != .read || ix.all fun x => cls (stepAt ks x).k != .eff ||
    (if π.idxOf x < π.idxOf j then bef ms x j else bef ms j x || (((pl.map (·.2)).getD (π.idxOf x) []).contains j && (match (stepAt ks j).dst with | some d => !(stepAt ks j).reads.contains d | none => false) &&
      ((List.range n).all fun r => !(decide (π.idxOf j < r) && decide (r ≤ π.idxOf x)) || match (stepAt ks (π.getD r 0)).dst with
        | none => true
        | some d => !(stepAt ks j).names.contains d))))

/-- a step whose call, if it is one, has nothing of the memory in sight -/
def toP : KStep → KStep
  | .op d g (.call f args) => .op d g (.callp f args)
  | s => s
def cDraw (P : Program) (nt : Nat) (ops : Array Oper) : Option (List KStep) :=
  (cSteps P nt ops ops.toList).bind fun ks =>
    let ms := masks ops.toList
    let pl := mkPlan ks ops.toList ms ks.length []
    if planOk ks ops.toList ms pl then planSteps ks pl else
      let pl := mkPlan (ks.map toP) ops.toList ms ks.length []
      if planOk (ks.map toP) ops.toList ms pl then planSteps (ks.map toP) pl else none

end Go.Proofs.Ytlboioplemlneaa.K
