/- Each operation that is none of a call: K's answer is the model's. -/
import Derived.Test.YtlboioplemlneaaKComp
set_option linter.unusedVariables false
set_option linter.unusedSimpArgs false
namespace Go.Proofs.Ytlboioplemlneaa.K
open Go Go.RowKit

section
variable {P : Program} {B : Nat} {w0 w : World} {ρ : Rho} {H H' : Heap} {nt : Nat} {e : Env} {a : Act} {k : KOp} {v : Value}

theorem VRel.int_inv {k : IntKind} {n : Int} {x' : Value} (h : VRel P ρ (.int k n) x') : x' = .int k n := by cases h; rfl
theorem VRel.str_inv {s : ByteArray} {x' : Value} (h : VRel P ρ (.string s) x') : x' = .string s := by cases h; rfl
theorem VRel.bool_inv {b : Bool} {x' : Value} (h : VRel P ρ (.bool b) x') : x' = .bool b := by cases h; rfl
theorem VRel.slice_inv {b : Option Addr} {n c : Nat} {x' : Value} (h : VRel P ρ (.slice b n c) x') : ∃ b' c', x' = .slice b' n c' := by
  cases h
  · exact ⟨_, _, rfl⟩
  · exact ⟨_, _, rfl⟩
  · exact ⟨_, _, rfl⟩
theorem VRel.mnil_inv {x' : Value} (h : VRel P ρ (.map none) x') : x' = .map none := by cases h; rfl

theorem IsI_ok {o : Option Operand} {o' : Option Opd} {d l : Int} (he : ERel P ρ e a) (hc : cOpt nt o = some o') (hl : evI e d o' = some l) : IsI (o.map a.eval) d l := by
  cases o with
  | none => simp [cOpt] at hc; subst hc; simp [evI] at hl; exact .inl ⟨rfl, hl.symm⟩
  | some x =>
    simp only [cOpt, Option.map_eq_some_iff] at hc
    obtain ⟨y, hy, rfl⟩ := hc
    have := opd_ok he hy
    simp only [evI] at hl
    split at hl
    · rename_i j n hev
      cases hl
      rw [hev] at this
      refine .inr ⟨j, ?_⟩
      generalize hq : a.eval x = q at this
      cases this
      simp [hq]
    · cases hl

theorem run_ok_op {s : Sem Value} {v' : Value} (h : HRel P B w0 ρ H w) (hr : s.run P w = .ok v' w) (hv : VRel P ρ v v') : OpGives P B w0 ρ (do pure (.value (← s))) w v H := (Gives.same h hr hv).op

/-- the builtins -/
theorem builtin_ok {b : Builtin} {args : List Operand} {ats : List TypeId} {ty : TypeId} {cs : Array Bool} (he : ERel P ρ e a) (h : HRel P B w0 ρ H w) (hc : cBuiltin P nt b args ats = some k) (hk : kop k e H = some (v, H')) :
    OpGives P B w0 ρ (builtin b ats.toArray ty cs (args.map a.eval).toArray) w v H' := by
  unfold cBuiltin at hc
  split at hc
  · -- len
    rename_i x t
    simp only [Option.bind_eq_some_iff] at hc
    obtain ⟨d, hd, y, hy, hc⟩ := hc
    have hx := opd_ok he hy
    cases d with
    | string =>
      cases hc
      simp only [kop] at hk
      split at hk
      · rename_i s hev
        cases hk
        rw [hev] at hx
        have hq := hx.str_inv
        exact run_ok_op h (v' := .int .i64 s.size) (by simp [Builtin.len_, run_underlying hd, hq, goInt]) (.int _ _)
      · cases hk
    | slice el =>
      cases hc
      simp only [kop] at hk
      split at hk
      · rename_i b n c hev
        cases hk
        rw [hev] at hx
        obtain ⟨b', c', hq⟩ := hx.slice_inv
        exact run_ok_op h (v' := .int .i64 n) (by simp [Builtin.len_, run_underlying hd, hq, goInt]) (.int _ _)
      · cases hk
    | map kt et =>
      cases hc
      simp only [kop, Option.map_eq_some_iff] at hk
      obtain ⟨⟨es, c⟩, hm, hk⟩ := hk
      simp only [Prod.mk.injEq] at hk
      obtain ⟨rfl, rfl⟩ := hk
      unfold kMap at hm
      split at hm
      · rename_i r hev
        rw [hev] at hx
        obtain ⟨L, hL, hq⟩ := hx.map_inv
        split at hm
        · rename_i es0 c0 hg
          cases hm
          obtain ⟨es', h1, h2⟩ := map_inv h hg hL
          refine run_ok_op h (v' := .int .i64 es'.size) (by simp [Builtin.len_, run_underlying hd, run_getMap h1, goInt, hq]) ?_
          have : es.length = es'.size := by have := h2.1; simp at this; omega
          rw [this]
          exact .int _ _
        · cases hm
      · rename_i hev
        cases hm
        rw [hev] at hx
        have hq := hx.mnil_inv
        exact run_ok_op h (v' := .int .i64 0) (by simp [Builtin.len_, run_underlying hd, goInt, hq]) (.int _ _)
      · cases hm
    | array n el =>
      cases hc
      simp only [kop, Option.some.injEq, Prod.mk.injEq, Env.ev] at hk
      obtain ⟨rfl, rfl⟩ := hk
      exact run_ok_op h (v' := .int .i64 n) (by simp [Builtin.len_, run_underlying hd, goInt]) (.int _ _)
    | _ => cases hc
  · -- append
    rename_i x y t u
    simp only [Option.bind_eq_some_iff] at hc
    obtain ⟨d, hd, hc⟩ := hc
    cases d with
    | slice el =>
      simp only [Option.bind_eq_some_iff] at hc
      obtain ⟨i, hi, z, hz, x', hx', y', hy', d2, hd2, hc⟩ := hc
      obtain ⟨i2, zz, hi2, hzz, _, hzs, _⟩ := zc_some hz
      rw [hi] at hi2; cases hi2
      have hx := opd_ok he hx'
      have hy := opd_ok he hy'
      cases d2 with
      | slice e2 =>
        cases hc
        simp only [kop] at hk
        split at hk
        · rename_i b m c hev
          simp only [Option.bind_eq_some_iff] at hk
          obtain ⟨news, hnews, hk⟩ := hk
          rw [hev] at hy
          obtain ⟨hnl, b', c', hq, news', hv, hnl', ho, hcell⟩ := kRow_inv h hy hnews
          have hcell' : ∀ w2 : World, (∀ ad, w2.cell? ad = w.cell? ad) → (Builtin.firstCells i.size m (.slice b' m c')).run P w2 = .ok news'.toArray w2 := by
            intro w2 hw2
            rcases hcell with ⟨rfl, h0⟩ | ⟨b2, rfl, hc2⟩
            · have : news' = [] := List.eq_nil_of_length_eq_zero (by rw [hnl', h0]; simp)
              subst this; simp [Builtin.firstCells]
            · exact run_firstCells_some (P := P) w2 i.size m b2 m c' news' hnl' (fun j v hj => by rw [hw2]; exact hc2 j v hj)
          have := app_ok (ty := ty) hd (.inl ⟨e2, hd2⟩) hi hzz hzs h hx (fun w => by simp [Builtin.lenOf]) (hcell' w (fun _ => rfl)) (hcell' w.drew (fun _ => rfl)) hv hnl ho hk
          have := this.op
          simpa [builtin, hq] using this
        · cases hk
      | string =>
        simp only at hc
        split at hc
        · rename_i h11
          cases hc
          simp only [kop] at hk
          split at hk
          · rename_i s hev
            rw [hev] at hy
            have hq := hy.str_inv
            have hfc : ∀ w2 : World, (Builtin.firstCells i.size s.size (.string s)).run P w2 = .ok (byteVals s).toArray w2 := by
              intro w2
              have e1 : (s.extract 0 s.size).data.map (fun b => Value.int .u8 b.toNat) = (byteVals s).toArray := by
                apply Array.ext'
                simp [byteVals, ByteArray.extract_zero_size]
              simp [Builtin.firstCells, ← e1]
            have hk2 : kApp H el i.size i.bytes (e.ev x') s.size (byteVals s) = some (v, H') := by rw [h11.1, h11.2]; exact hk
            have := app_ok (ty := ty) hd (.inr hd2) hi hzz hzs h hx (fun w => by simp [Builtin.lenOf]) (hfc w) (hfc w.drew) (VL.bytes s) (by rw [byteVals_length, h11.1]; simp) (oneC_bytes s) hk2
            have := this.op
            simpa [builtin, hq] using this
          · cases hk
        · cases hc
      | _ => cases hc
    | _ => cases hc
  · -- max
    rename_i x xs
    simp only [Option.bind_eq_some_iff, Option.map_eq_some_iff] at hc
    obtain ⟨x', hx', xs', hxs', rfl⟩ := hc
    simp only [kop, Option.map_eq_some_iff, Prod.mk.injEq] at hk
    obtain ⟨r, hr, rfl, rfl⟩ := hk
    obtain ⟨h1, h2, h3, h4⟩ := mx_ok (P := P) (ρ := ρ) hr w
    have hx := opd_ok he hx'
    have hxs := opds_ok he hxs'
    have e1 : a.eval x = e.ev x' := by
      have := VL.eq_of (VL.cons hx VL.nil) (fun z hz y hy => by
        simp at hz; subst hz
        have : ∃ k n, e.ev x' = .int k n := by
          unfold kMx at hr; split at hr
          · exact ⟨_, _, by assumption⟩
          · exact ⟨_, _, by assumption⟩
          · cases hr
        obtain ⟨k, n, hkn⟩ := this
        rw [hkn] at hy ⊢
        cases hy; rfl)
      simpa using this
    have e2 : xs.map a.eval = xs'.map e.ev := hxs.eq_of (fun z hz y hy => by
      obtain ⟨k, n, rfl⟩ := h4 z hz
      cases hy; rfl)
    exact run_ok_op h (v' := r) (by simp [Builtin.max_, e1, e2, h1]) h2
  · -- min
    rename_i x xs
    simp only [Option.bind_eq_some_iff, Option.map_eq_some_iff] at hc
    obtain ⟨x', hx', xs', hxs', rfl⟩ := hc
    simp only [kop, Option.map_eq_some_iff, Prod.mk.injEq] at hk
    obtain ⟨r, hr, rfl, rfl⟩ := hk
    obtain ⟨h1, h2, h3, h4⟩ := mn_ok (P := P) (ρ := ρ) hr w
    have hx := opd_ok he hx'
    have hxs := opds_ok he hxs'
    have e1 : a.eval x = e.ev x' := by
      have := VL.eq_of (VL.cons hx VL.nil) (fun z hz y hy => by
        simp at hz; subst hz
        have : ∃ k n, e.ev x' = .int k n := by
          unfold kMn at hr; split at hr
          · exact ⟨_, _, by assumption⟩
          · exact ⟨_, _, by assumption⟩
          · cases hr
        obtain ⟨k, n, hkn⟩ := this
        rw [hkn] at hy ⊢
        cases hy; rfl)
      simpa using this
    have e2 : xs.map a.eval = xs'.map e.ev := hxs.eq_of (fun z hz y hy => by
      obtain ⟨k, n, rfl⟩ := h4 z hz
      cases hy; rfl)
    exact run_ok_op h (v' := r) (by simp [Builtin.min_, e1, e2, h1]) h2
  · -- copy
    rename_i x y t u
    simp only [Option.bind_eq_some_iff] at hc
    obtain ⟨d, hd, hc⟩ := hc
    cases d with
    | slice el =>
      simp only [Option.bind_eq_some_iff, Option.map_eq_some_iff] at hc
      obtain ⟨i, hi, x', hx', y', hy', rfl⟩ := hc
      have hx := opd_ok he hx'
      have hy := opd_ok he hy'
      simp only [kop] at hk
      split at hk
      · rename_i aa n c bb m c2 hev1 hev2
        rw [hev1] at hx
        rw [hev2] at hy
        have := (cpy_ok (xt := u) (ty := ty) hd hi h hx hy hk).op
        simpa [builtin] using this
      · cases hk
    | _ => cases hc
  · -- delete
    rename_i m kx t more
    simp only [Option.bind_eq_some_iff, Option.map_eq_some_iff, cMap] at hc
    obtain ⟨⟨kk, et⟩, ⟨d, hd, hc1⟩, m', hm', k', hk', rfl⟩ := hc
    cases d with
    | map kt et2 =>
      simp only [Option.map_eq_some_iff] at hc1
      obtain ⟨q, hq, hqe⟩ := hc1
      cases hqe
      simp only [kop, Option.map_eq_some_iff, Prod.mk.injEq] at hk
      obtain ⟨H2, hH2, rfl, rfl⟩ := hk
      have := (del_ok (ty := ty) (ats := (t :: more).toArray) hd (eqK_ok hq) (by simp) h (opd_ok he hm') (opd_ok he hk') hH2).op
      simpa [builtin] using this
    | _ => cases hc1
  · cases hc

set_option maxHeartbeats 1000000 in
theorem op_ok0 {o : Oper} (he : ERel P ρ e a) (h : HRel P B w0 ρ H w) (hc : cOp0 P nt o.op = some k) (hn : isCall k = false) (hk : kop k e H = some (v, H')) :
    OpGives P B w0 ρ (execOp a.eval o) w v H' := by
  obtain ⟨dst, op, type, pos, after, guard⟩ := o
  simp only at hc
  unfold execOp
  simp only
  cases op with
  | move x =>
    simp only [cOp0, Option.map_eq_some_iff] at hc
    obtain ⟨y, hy, rfl⟩ := hc
    simp only [kop, Option.some.injEq, Prod.mk.injEq] at hk
    obtain ⟨rfl, rfl⟩ := hk
    exact ⟨ρ, _, w, by simp, List.prefix_refl _, h, .inl ⟨_, rfl, opd_ok he hy⟩⟩
  | assign x =>
    simp only [cOp0, Option.map_eq_some_iff] at hc
    obtain ⟨y, hy, rfl⟩ := hc
    simp only [kop, Option.some.injEq, Prod.mk.injEq] at hk
    obtain ⟨rfl, rfl⟩ := hk
    exact ⟨ρ, _, w, by simp, List.prefix_refl _, h, .inl ⟨_, rfl, opd_ok he hy⟩⟩
  | pick c x y =>
    simp only [cOp0, Option.bind_eq_some_iff, Option.map_eq_some_iff] at hc
    obtain ⟨c', hc', x', hx', y', hy', rfl⟩ := hc
    simp only [kop] at hk
    split at hk
    · rename_i t hev
      have := opd_ok he hc'
      rw [hev] at this
      cases hk
      have hq := this.bool_inv
      refine ⟨ρ, .value (if t then a.eval x else a.eval y), w, by simp [asBool, hq], List.prefix_refl _, h, .inl ⟨_, rfl, ?_⟩⟩
      cases t
      · exact opd_ok he hy'
      · exact opd_ok he hx'
    · cases hk
  | alloc t =>
    simp only [cOp0, Option.map_eq_some_iff] at hc
    obtain ⟨z, hz, rfl⟩ := hc
    obtain ⟨i, zz, hi, hzz, rfl, hsz, hgr⟩ := zc_some hz
    simp only [kop, Option.some.injEq, Prod.mk.injEq] at hk
    obtain ⟨rfl, rfl⟩ := hk
    obtain ⟨g1, g2⟩ := groundL_rel (P := P) (ρ := []) hgr
    exact (alloc_ok hi hzz g1 g2 h).op
  | box t x =>
    simp only [cOp0, Option.map_eq_some_iff] at hc
    obtain ⟨y, hy, rfl⟩ := hc
    simp only [kop] at hk
    split at hk
    · cases hk
    · rename_i ht
      cases hk
      exact (box_ok h (opd_ok he hy) (by simpa using ht)).op
  | build t ps =>
    simp only [cOp0, cBuild, Option.bind_eq_some_iff] at hc
    obtain ⟨z, hz, d, hd, hc⟩ := hc
    obtain ⟨i, zz, hi, hzz, rfl, hsz, hgr⟩ := zc_some hz
    obtain ⟨g1, g2⟩ := groundL_rel (P := P) (ρ := ρ) hgr
    cases d with
    | struct fs =>
      simp only [Option.bind_eq_some_iff, Option.map_eq_some_iff] at hc
      obtain ⟨pl, hpl, ks, hks, rfl⟩ := hc
      simp only [kop, Option.map_eq_some_iff, Prod.mk.injEq] at hk
      obtain ⟨c, hcf, rfl, rfl⟩ := hk
      obtain ⟨p1, p2⟩ := parts_ok he hks
      obtain ⟨c', hf, hv, ho⟩ := fill_ok (P := P) (ρ := ρ) (fun j => pl.toArray[j]?) _ _ _ zz.cells c p1 p2 g1 g2 hcf
      have hb : P.built t (ps.map fun (j, x) => (j, a.eval x)).toList = some c' := by
        simp only [Program.built, hi, hd, hzz]
        rw [show fs.toList.mapM (fun f => (P.info? f.type).map fun i => (f.offset, i.size)) = some pl from hpl]
        simpa using hf
      have hag := agg_of hv ho
      rw [Array.toArray_toList] at hag
      exact run_ok_op h (run_build w t _ c' hb) hag
    | array n el =>
      simp only [Option.bind_eq_some_iff, Option.map_eq_some_iff] at hc
      obtain ⟨ie, hie, ks, hks, rfl⟩ := hc
      simp only [kop, Option.map_eq_some_iff, Prod.mk.injEq] at hk
      obtain ⟨c, hcf, rfl, rfl⟩ := hk
      obtain ⟨p1, p2⟩ := parts_ok he hks
      obtain ⟨c', hf, hv, ho⟩ := fill_ok (P := P) (ρ := ρ) (fun j => some (j * ie.size, ie.size)) _ _ _ zz.cells c p1 p2 g1 g2 hcf
      have hb : P.built t (ps.map fun (j, x) => (j, a.eval x)).toList = some c' := by
        simp only [Program.built, hi, hd, hzz, hie]
        simpa using hf
      have hag := agg_of hv ho
      rw [Array.toArray_toList] at hag
      exact run_ok_op h (run_build w t _ c' hb) hag
    | _ => cases hc
  | buildSlice t len ps =>
    simp only [cOp0, cBsl, Option.bind_eq_some_iff] at hc
    obtain ⟨d, hd, hc⟩ := hc
    cases d with
    | slice el =>
      simp only [Option.bind_eq_some_iff] at hc
      obtain ⟨i, hi, hc⟩ := hc
      split at hc
      · rename_i hlim
        simp only [Option.bind_eq_some_iff] at hc
        obtain ⟨zv, hzv, hc⟩ := hc
        split at hc
        · rename_i hgr
          simp only [Option.map_eq_some_iff] at hc
          obtain ⟨ks, hks, rfl⟩ := hc
          simp only [kop, Option.map_eq_some_iff, Prod.mk.injEq] at hk
          obtain ⟨c, hcf, rfl, rfl⟩ := hk
          obtain ⟨p1, p2⟩ := parts_ok he hks
          obtain ⟨g1, g2⟩ := groundL_rel (P := P) (ρ := []) hgr
          have hz : (if len * i.size = 0 then zv = #[] else ∃ zz, i.zero = some zz ∧ zv = zz.cells) := by
            split at hzv
            · rename_i h0; rw [if_pos h0]; simpa using hzv.symm
            · rename_i h0
              rw [if_neg h0]
              simp only [Option.map_eq_some_iff] at hzv
              obtain ⟨zz, hzz, rfl⟩ := hzv
              exact ⟨zz, hzz, rfl⟩
          exact (bsl_ok (parts := ps.map fun (j, x) => (j, a.eval x)) hd hi hlim hz rfl g1 g2 h (by simpa using p1) (fun j p q hp hq => by
            obtain ⟨q1, q2⟩ := p2 j p q hp (by simpa using hq)
            simp only [Option.some.injEq] at q1
            exact ⟨q1.symm, q2⟩) hcf).op
        · cases hc
      · cases hc
    | _ => cases hc
  | load t x =>
    simp only [cOp0, cLoad, Option.bind_eq_some_iff, Option.map_eq_some_iff] at hc
    obtain ⟨d, hd, i, hi, y, hy, rfl⟩ := hc
    cases hag : isAggD d with
    | true =>
      simp only [hag, if_true, kop, Option.map_eq_some_iff, Prod.mk.injEq] at hk
      obtain ⟨r, hr, rfl, rfl⟩ := hk
      exact (ldn_ok hd hag hi h (opd_ok he hy) hr).op
    | false =>
      simp only [hag, Bool.false_eq_true, if_false, kop, Option.map_eq_some_iff, Prod.mk.injEq] at hk
      obtain ⟨r, hr, rfl, rfl⟩ := hk
      exact (ld_ok hd hag h (opd_ok he hy) hr).op
  | store t x y =>
    simp only [cOp0, cStore, Option.bind_eq_some_iff] at hc
    obtain ⟨d, hd, i, hi, x', hx', y', hy', hc⟩ := hc
    split at hc
    · cases hc
      simp only [kop, Option.map_eq_some_iff, Prod.mk.injEq] at hk
      obtain ⟨r, hr, rfl, rfl⟩ := hk
      exact (stn_ok hi h (opd_ok he hx') (opd_ok he hy') hr).op
    · split at hc
      · rename_i h1
        cases hc
        simp only [kop, Option.map_eq_some_iff, Prod.mk.injEq] at hk
        obtain ⟨r, hr, rfl, rfl⟩ := hk
        exact (st_ok hi h1 h (opd_ok he hx') (opd_ok he hy') hr).op
      · cases hc
  | nilCheck x =>
    simp only [cOp0, Option.map_eq_some_iff] at hc
    obtain ⟨y, hy, rfl⟩ := hc
    have hx := opd_ok he hy
    simp only [kop] at hk
    split at hk
    · rename_i ad hev
      cases hk
      rw [hev] at hx
      obtain ⟨L, hs, hL, hq⟩ := hx.pointer_inv
      exact ⟨ρ, .value (a.eval x), w, by simp [hq], List.prefix_refl _, h, .inl ⟨_, rfl, hx⟩⟩
    · rename_i f aa cc hev
      cases hk
      rw [hev] at hx
      have hq : ∃ a' c', a.eval x = .func (.func f) a' c' := by
        generalize a.eval x = q at hx
        cases hx; exact ⟨_, _, rfl⟩
      obtain ⟨a', c', hq⟩ := hq
      exact ⟨ρ, .value (a.eval x), w, by simp [hq], List.prefix_refl _, h, .inl ⟨_, rfl, hx⟩⟩
    · cases hk
  | binOp op t x y yt =>
    have plain : ∀ x' y', cOpd nt x = some x' → cOpd nt y = some y' → kop (.bin op x' y') e H = some (v, H') →
        OpGives P B w0 ρ (do pure (.value (← (do eqGuard op t x y (a.eval x) (a.eval y); binOp op t (a.eval x) (a.eval y))))) w v H' := by
      intro x' y' hx' hy' hk
      simp only [kop, Option.map_eq_some_iff, Prod.mk.injEq] at hk
      obtain ⟨r, hr, rfl, rfl⟩ := hk
      obtain ⟨h1, h2, h3⟩ := bin_ok (P := P) t (opd_ok he hx') (opd_ok he hy') hr w
      exact run_ok_op h (by simp only [Sem.run_bind, h3, Result.andThen_ok]; exact h1) h2
    have eqs : ∀ neg : Bool, op = (if neg then .neq else .eql) → cEqv P nt neg t x y = some k →
        OpGives P B w0 ρ (do pure (.value (← (do eqGuard op t x y (a.eval x) (a.eval y); binOp op t (a.eval x) (a.eval y))))) w v H' := by
      intro neg hop hc
      simp only [cEqv, Option.bind_eq_some_iff] at hc
      obtain ⟨kk, hkk, x', hx', y', hy', hc⟩ := hc
      split at hc
      · cases hc
        rw [← hop] at hk
        exact plain x' y' hx' hy' hk
      · rename_i hns
        split at hc
        · cases hc
        · rename_i hif
          cases hc
          simp only [kop, Option.map_eq_some_iff, Prod.mk.injEq] at hk
          obtain ⟨r, hr, rfl, rfl⟩ := hk
          have := eqv_ok (eqK_ok hkk) (fun e => hns (.inl e)) (fun e => hns (.inr e)) (opd_ok he hx') (opd_ok he hy') hr neg x y (fun hifc => by
            have : isC y = true := by
              cases hq : isC y with
              | true => rfl
              | false => exact absurd ⟨hifc, hq⟩ hif
            cases y <;> simp [isC] at this
            exact ⟨_, rfl⟩) w
          rw [hop]
          exact run_ok_op h this (.bool _)
    simp only [cOp0, cBin] at hc
    cases op <;> simp only at hc <;> first
      | exact eqs false rfl hc
      | exact eqs true rfl hc
      | (simp only [Option.bind_eq_some_iff, Option.map_eq_some_iff] at hc
         obtain ⟨x', hx', y', hy', rfl⟩ := hc
         exact plain x' y' hx' hy' hk)
  | unOp op t x =>
    simp only [cOp0, Option.map_eq_some_iff] at hc
    obtain ⟨y, hy, rfl⟩ := hc
    simp only [kop, Option.map_eq_some_iff, Prod.mk.injEq] at hk
    obtain ⟨r, hr, rfl, rfl⟩ := hk
    obtain ⟨h1, h2⟩ := un_ok (opd_ok he hy) hr w
    exact run_ok_op h h1 h2
  | convert src dst x =>
    simp only [cOp0, cConv, Option.bind_eq_some_iff] at hc
    obtain ⟨s, hs, d, hd, y, hy, hc⟩ := hc
    have hx := opd_ok he hy
    cases d with
    | int q =>
      simp only [Option.some.injEq] at hc
      subst hc
      simp only [kop] at hk
      split at hk
      · rename_i j n hev
        cases hk
        rw [hev] at hx
        have hq := hx.int_inv
        exact run_ok_op h (by rw [hq]; exact cvt_ok hs hd j n w) (.int _ _)
      · cases hk
    | string =>
      cases s with
      | slice el =>
        simp only at hc
        split at hc
        · rename_i hu
          simp only [Option.some.injEq] at hc
          subst hc
          have hel := isU8_ok hu
          simp only [kop] at hk
          split at hk
          · rename_i aa n c hev
            simp only [Option.bind_eq_some_iff, Option.map_eq_some_iff, Prod.mk.injEq] at hk
            obtain ⟨l, hl, bs, hbs, rfl, rfl⟩ := hk
            rw [hev] at hx
            exact (b2s_ok hs hel hd h hx hl hbs).op
          · cases hk
        · cases hc
      | _ => simp at hc
    | slice el =>
      simp only at hc
      split at hc
      · rename_i hu
        simp only [Option.some.injEq] at hc
        subst hc
        simp only [Bool.and_eq_true, decide_eq_true_eq, Option.map_eq_some_iff] at hu
        obtain ⟨hu, i, hi, h1⟩ := hu
        have hel := isU8_ok hu
        simp only [kop] at hk
        split at hk
        · rename_i ss hev
          split at hk
          · rename_i hsz
            cases hk
            rw [hev] at hx
            have hq := hx.str_inv
            dsimp only
            rw [hq]
            exact (s2b_ok hs hd hel hi h1 h ss hsz).op
          · cases hk
        · cases hk
      · cases hc
    | _ => simp at hc
  | makeInterface t x =>
    simp only [cOp0, Option.bind_eq_some_iff] at hc
    obtain ⟨d, hd, hc⟩ := hc
    split at hc
    · cases hc
    · rename_i hni
      simp only [Option.map_eq_some_iff] at hc
      obtain ⟨y, hy, rfl⟩ := hc
      simp only [kop] at hk
      split at hk
      · cases hk
      · cases hk
        exact run_ok_op h (v' := .iface t (a.eval x)) (by cases d <;> simp_all [isIfaceD, Instr.makeInterface, run_underlying hd]) (.iface t (opd_ok he hy))
  | makeFunc fn x y =>
    cases fn with
    | func f =>
      simp only [cOp0, Option.bind_eq_some_iff, Option.map_eq_some_iff] at hc
      obtain ⟨x', hx', y', hy', rfl⟩ := hc
      simp only [kop, Option.some.injEq, Prod.mk.injEq] at hk
      obtain ⟨rfl, rfl⟩ := hk
      have h1 := opds_ok he hx'
      have h2 := opds_ok he hy'
      refine run_ok_op h (v' := .func (.func f) (x.map a.eval) (y.map a.eval)) (by simp [Instr.makeFunc]) ?_
      refine .func _ (by have := h1.1; simpa using this) (fun i p q hp hq => h1.2 i p q (by simpa using hp) (by simpa using hq)) (by have := h2.1; simpa using this) (fun i p q hp hq => h2.2 i p q (by simpa using hp) (by simpa using hq))
    | _ => simp [cOp0] at hc
  | makeMap t r =>
    cases r with
    | none =>
      simp only [cOp0, Option.some.injEq] at hc
      subst hc
      simp only [kop, Option.some.injEq, Prod.mk.injEq] at hk
      obtain ⟨rfl, rfl⟩ := hk
      exact (mkm_ok t h).op
    | some r => simp [cOp0] at hc
  | makeSlice t l c =>
    simp only [cOp0, cMks, Option.bind_eq_some_iff] at hc
    obtain ⟨d, hd, hc⟩ := hc
    cases d with
    | slice el =>
      simp only [Option.bind_eq_some_iff, Option.map_eq_some_iff] at hc
      obtain ⟨i, hi, z, hz, l', hl', c', hc', rfl⟩ := hc
      obtain ⟨i2, zz, hi2, hzz, rfl, hzs, hgr⟩ := zc_some hz
      rw [hi] at hi2; cases hi2
      obtain ⟨g1, g2⟩ := groundL_rel (P := P) (ρ := []) hgr
      simp only [kop] at hk
      exact (mks_ok hd hi hzz hzs g1 g2 h (opd_ok he hl') (opd_ok he hc') hk).op
    | _ => cases hc
  | slice t x lo hi mx =>
    simp only [cOp0, cSlice] at hc
    cases mx with
    | some m => simp at hc
    | none =>
      simp only [Option.isSome_none, Bool.false_eq_true, if_false, Option.bind_eq_some_iff] at hc
      obtain ⟨d, hd, x', hx', lo', hlo', hi', hhi', hc⟩ := hc
      have hx := opd_ok he hx'
      cases d with
      | string =>
        simp only [Option.some.injEq] at hc
        subst hc
        simp only [kop] at hk
        split at hk
        · rename_i s hev
          simp only [Option.bind_eq_some_iff, Option.map_eq_some_iff, Prod.mk.injEq] at hk
          obtain ⟨l, hl, hh, hhh, r, hr, rfl, rfl⟩ := hk
          rw [hev] at hx
          have hq := hx.str_inv
          dsimp only
          rw [hq]
          obtain ⟨h1, h2⟩ := slS_ok (P := P) (ρ := ρ) hd s (IsI_ok he hlo' hl) (IsI_ok he hhi' hhh) hr w
          exact run_ok_op h h1 h2
        · cases hk
      | slice el =>
        simp only [Option.map_eq_some_iff] at hc
        obtain ⟨i, hi0, rfl⟩ := hc
        simp only [kop, Option.bind_eq_some_iff] at hk
        obtain ⟨l, hl, hk⟩ := hk
        cases hi' with
        | none =>
          simp only [Option.map_eq_some_iff, Prod.mk.injEq] at hk
          obtain ⟨r, hr, rfl, rfl⟩ := hk
          have hin : hi = none := by
            cases hi with
            | none => rfl
            | some q => simp [cOpt] at hhi'
          subst hin
          exact (slc_ok hd hi0 h hx (IsI_ok he hlo' hl) (.inl ⟨rfl, rfl⟩) hr).op
        | some hq' =>
          simp only [Option.bind_eq_some_iff, Option.map_eq_some_iff, Prod.mk.injEq] at hk
          obtain ⟨hh, hhh, r, hr, rfl, rfl⟩ := hk
          have hI := IsI_ok (d := 0) he hhi' hhh
          have : ∃ kq n, hi.map a.eval = some (.int kq n) ∧ some hh = some n := by
            rcases hI with ⟨h1, h2⟩ | ⟨kq, h1⟩
            · cases hi with
              | none => simp [cOpt] at hhi'
              | some q => simp at h1
            · exact ⟨kq, hh, h1, rfl⟩
          exact (slc_ok hd hi0 h hx (IsI_ok he hlo' hl) (.inr this) hr).op
      | _ => simp at hc
  | fieldAddr t x n =>
    simp only [cOp0, cFad, Option.bind_eq_some_iff] at hc
    obtain ⟨d, hd, hc⟩ := hc
    cases d with
    | struct fs =>
      simp only [Option.bind_eq_some_iff] at hc
      obtain ⟨f, hf, i, hi, hc⟩ := hc
      split at hc
      · cases hc
      · rename_i h0
        simp only [Option.map_eq_some_iff] at hc
        obtain ⟨y, hy, rfl⟩ := hc
        have hx := opd_ok he hy
        simp only [kop] at hk
        split at hk
        · rename_i ad hev
          cases hk
          rw [hev] at hx
          obtain ⟨v', h1, h2⟩ := fad_ok hd hf hi h0 hx w
          exact run_ok_op h h1 h2
        · cases hk
    | _ => cases hc
  | field t x n =>
    simp only [cOp0, cFld, Option.bind_eq_some_iff] at hc
    obtain ⟨d, hd, hc⟩ := hc
    cases d with
    | struct fs =>
      simp only [Option.bind_eq_some_iff, Option.map_eq_some_iff] at hc
      obtain ⟨f, hf, d2, hd2, i, hi, y, hy, rfl⟩ := hc
      have hx := opd_ok he hy
      cases hag : isAggD d2 with
      | true =>
        simp only [hag, if_true, kop] at hk
        split at hk
        · rename_i cs hev
          simp only [Option.map_eq_some_iff, Prod.mk.injEq] at hk
          obtain ⟨l, hl, rfl, rfl⟩ := hk
          rw [hev] at hx
          obtain ⟨v', h1, h2⟩ := fldn_ok hd hf hd2 hag hi hx hl w
          exact run_ok_op h h1 h2
        · cases hk
      | false =>
        simp only [hag, Bool.false_eq_true, if_false, kop] at hk
        split at hk
        · rename_i cs hev
          simp only [Option.map_eq_some_iff, Prod.mk.injEq] at hk
          obtain ⟨l, hl, rfl, rfl⟩ := hk
          rw [hev] at hx
          obtain ⟨v', h1, h2⟩ := fld_ok hd hf hd2 hag hx hl w
          exact run_ok_op h h1 h2
        · cases hk
    | _ => cases hc
  | indexAddr t x j =>
    simp only [cOp0, cIad, Option.bind_eq_some_iff] at hc
    obtain ⟨d, hd, x', hx', j', hj', hc⟩ := hc
    have hx := opd_ok he hx'
    have hj := opd_ok he hj'
    cases d with
    | slice el =>
      simp only [Option.map_eq_some_iff] at hc
      obtain ⟨i, hi, rfl⟩ := hc
      simp only [kop] at hk
      split at hk
      · rename_i ad n c kq q hev1 hev2
        split at hk
        · rename_i hb
          cases hk
          rw [hev1] at hx
          rw [hev2] at hj
          dsimp only
          rw [hj.int_inv]
          obtain ⟨v', h1, h2⟩ := iad_ok (k := kq) hd hi hx hb w
          exact run_ok_op h h1 h2
        · cases hk
      · cases hk
    | array len el =>
      simp only [Option.map_eq_some_iff] at hc
      obtain ⟨i, hi, rfl⟩ := hc
      simp only [kop] at hk
      split at hk
      · rename_i ad kq q hev1 hev2
        split at hk
        · rename_i hb
          cases hk
          rw [hev1] at hx
          rw [hev2] at hj
          dsimp only
          rw [hj.int_inv]
          obtain ⟨v', h1, h2⟩ := iada_ok (k := kq) hd hi hx hb w
          exact run_ok_op h h1 h2
        · cases hk
      · cases hk
    | _ => simp at hc
  | index t x j =>
    simp only [cOp0, cIdx, Option.bind_eq_some_iff] at hc
    obtain ⟨d, hd, x', hx', j', hj', hc⟩ := hc
    have hx := opd_ok he hx'
    have hj := opd_ok he hj'
    cases d with
    | string =>
      simp only [Option.some.injEq] at hc
      subst hc
      simp only [kop] at hk
      split at hk
      · rename_i s kq q hev1 hev2
        split at hk
        · rename_i hb
          simp only [Option.map_eq_some_iff, Prod.mk.injEq] at hk
          obtain ⟨b, hbb, rfl, rfl⟩ := hk
          rw [hev1] at hx
          rw [hev2] at hj
          dsimp only
          rw [hj.int_inv, hx.str_inv]
          exact run_ok_op h (idS_ok hd s hb hbb w) (.int _ _)
        · cases hk
      · cases hk
    | array len el =>
      simp only [Option.bind_eq_some_iff] at hc
      obtain ⟨d2, hd2, i, hi, hc⟩ := hc
      split at hc
      · rename_i hag
        simp only [Option.some.injEq] at hc
        subst hc
        simp only [kop] at hk
        split at hk
        · rename_i cs kq q hev1 hev2
          split at hk
          · rename_i hb
            simp only [Option.map_eq_some_iff, Prod.mk.injEq] at hk
            obtain ⟨l, hl, rfl, rfl⟩ := hk
            rw [hev1] at hx
            rw [hev2] at hj
            dsimp only
            rw [hj.int_inv]
            obtain ⟨v', h1, h2⟩ := idan_ok (k := kq) hd hd2 hi hag hx hb hl w
            exact run_ok_op h h1 h2
          · cases hk
        · cases hk
      · rename_i hag
        split at hc
        · rename_i h1s
          simp only [Option.some.injEq] at hc
          subst hc
          simp only [kop] at hk
          split at hk
          · rename_i cs kq q hev1 hev2
            split at hk
            · rename_i hb
              simp only [Option.map_eq_some_iff, Prod.mk.injEq] at hk
              obtain ⟨l, hl, rfl, rfl⟩ := hk
              rw [hev1] at hx
              rw [hev2] at hj
              dsimp only
              rw [hj.int_inv]
              obtain ⟨v', h1, h2⟩ := ida_ok (k := kq) hd hd2 hi h1s (by simpa using hag) hx hb hl w
              exact run_ok_op h h1 h2
            · cases hk
          · cases hk
        · cases hc
    | _ => simp at hc
  | extract x j =>
    simp only [cOp0, Option.map_eq_some_iff] at hc
    obtain ⟨y, hy, rfl⟩ := hc
    have hx := opd_ok he hy
    simp only [kop] at hk
    split at hk
    · rename_i vs hev
      simp only [Option.map_eq_some_iff, Prod.mk.injEq] at hk
      obtain ⟨r, hr, rfl, rfl⟩ := hk
      rw [hev] at hx
      have hq : ∃ vs', a.eval x = .tuple vs' ∧ VL P ρ vs.toList vs'.toList := by
        generalize a.eval x = q at hx
        cases hx with
        | tuple hs hv => exact ⟨_, rfl, VL.arr hs hv⟩
      obtain ⟨vs', hq, hvl⟩ := hq
      obtain ⟨y, hy, hvv⟩ := hvl.get hr
      have hy' : vs'[j]? = some y := by simpa using hy
      exact run_ok_op h (v' := y) (by rw [hq]; simp [Instr.extract, hy']) hvv
    · cases hk
  | lookup t m kx ok =>
    simp only [cOp0, Option.bind_eq_some_iff, Option.map_eq_some_iff, cMap] at hc
    obtain ⟨⟨kk, et⟩, ⟨d, hd, hc1⟩, z, hz, m', hm', k', hk', rfl⟩ := hc
    cases d with
    | map kt et2 =>
      simp only [Option.map_eq_some_iff] at hc1
      obtain ⟨q, hq, hqe⟩ := hc1
      cases hqe
      obtain ⟨i, hi, hzz, hgr⟩ := zv_some hz
      simp only [kop] at hk
      have hHH : H' = H := by
        simp only [Option.bind_eq_some_iff] at hk
        obtain ⟨p, hp, hk⟩ := hk
        split at hk
        · simp only [Option.map_eq_some_iff] at hk
          obtain ⟨r, hr, hk⟩ := hk
          split at hk <;> (simp only [Prod.mk.injEq] at hk; exact hk.2.symm)
        · cases hk
      subst hHH
      exact (lkp_ok hd (eqK_ok hq) hi hzz (groundV_rel hgr) h (opd_ok he hm') (opd_ok he hk') hk).op
    | _ => cases hc1
  | mapUpdate t m kx x =>
    simp only [cOp0, Option.bind_eq_some_iff, Option.map_eq_some_iff, cMap] at hc
    obtain ⟨⟨kk, et⟩, ⟨d, hd, hc1⟩, m', hm', k', hk', x', hx', rfl⟩ := hc
    cases d with
    | map kt et2 =>
      simp only [Option.map_eq_some_iff] at hc1
      obtain ⟨q, hq, hqe⟩ := hc1
      cases hqe
      simp only [kop, Option.map_eq_some_iff, Prod.mk.injEq] at hk
      obtain ⟨H2, hH2, rfl, rfl⟩ := hk
      exact (mup_ok hd (eqK_ok hq) h (opd_ok he hm') (opd_ok he hk') (opd_ok he hx') hH2).op
    | _ => cases hc1
  | insert t m kx x =>
    simp only [cOp0, Option.bind_eq_some_iff, Option.map_eq_some_iff, cMap] at hc
    obtain ⟨⟨kk, et⟩, ⟨d, hd, hc1⟩, m', hm', k', hk', x', hx', rfl⟩ := hc
    cases d with
    | map kt et2 =>
      simp only [Option.map_eq_some_iff] at hc1
      obtain ⟨q, hq, hqe⟩ := hc1
      cases hqe
      simp only [kop, Option.map_eq_some_iff, Prod.mk.injEq] at hk
      obtain ⟨H2, hH2, rfl, rfl⟩ := hk
      exact (mup_ok hd (eqK_ok hq) h (opd_ok he hm') (opd_ok he hk') (opd_ok he hx') hH2).op
    | _ => cases hc1
  | mapEntry t m kx =>
    simp only [cOp0, Option.bind_eq_some_iff, Option.map_eq_some_iff, cMap] at hc
    obtain ⟨⟨kk, et⟩, ⟨d, hd, hc1⟩, z, hz, m', hm', k', hk', rfl⟩ := hc
    cases d with
    | map kt et2 =>
      simp only [Option.map_eq_some_iff] at hc1
      obtain ⟨q, hq, hqe⟩ := hc1
      cases hqe
      obtain ⟨i, hi, hzz, hgr⟩ := zv_some hz
      simp only [kop] at hk
      exact (men_ok hd (eqK_ok hq) hi hzz (groundV_rel hgr) h (opd_ok he hm') (opd_ok he hk') hk).op
    | _ => cases hc1
  | entryStore t m s x =>
    simp only [cOp0, Option.bind_eq_some_iff, Option.map_eq_some_iff] at hc
    obtain ⟨m', hm', s', hs', x', hx', rfl⟩ := hc
    simp only [kop, Option.map_eq_some_iff, Prod.mk.injEq] at hk
    obtain ⟨H2, hH2, rfl, rfl⟩ := hk
    exact (mes_ok (t := t) h (opd_ok he hm') (opd_ok he hs') (opd_ok he hx') hH2).op
  | typeAssert x xt t ok =>
    simp only [cOp0, cTas, Option.bind_eq_some_iff] at hc
    obtain ⟨d, hd, hc⟩ := hc
    split at hc
    · cases hc
    · rename_i hni
      simp only [Option.bind_eq_some_iff, Option.map_eq_some_iff] at hc
      obtain ⟨z, hz, y, hy, rfl⟩ := hc
      obtain ⟨i, hi, hzz, hgr⟩ := zv_some hz
      simp only [kop] at hk
      have hHH : H' = H := by
        unfold kTas at hk
        split at hk
        · split at hk
          · simp only [Option.some.injEq, Prod.mk.injEq] at hk; exact hk.2.symm
          · split at hk
            · simp only [Option.some.injEq, Prod.mk.injEq] at hk; exact hk.2.symm
            · cases hk
        · split at hk
          · simp only [Option.some.injEq, Prod.mk.injEq] at hk; exact hk.2.symm
          · cases hk
        · cases hk
      subst hHH
      exact (tas_ok (xt := xt) hd (by simpa using hni) hi hzz (groundV_rel hgr) h (opd_ok he hy) hk).op
  | call c =>
    simp only [cOp0, cCall] at hc
    split at hc
    · rename_i b hb
      have := builtin_ok (ty := type) (cs := c.args.map fun | .const _ => true | _ => false) he h hc hk
      have e1 : (c.args.toList.map a.eval).toArray = c.args.map a.eval := by apply Array.ext'; simp
      rw [e1, Array.toArray_toList] at this
      simp only [resolve, hb]
      exact this
    · split at hc
      · simp only [Option.map_eq_some_iff] at hc
        obtain ⟨_, _, rfl⟩ := hc
        cases hn
      · cases hc
    · simp only [Option.bind_eq_some_iff, Option.map_eq_some_iff] at hc
      obtain ⟨_, _, _, _, rfl⟩ := hc
      cases hn
    · simp only [Option.bind_eq_some_iff, Option.map_eq_some_iff] at hc
      obtain ⟨_, _, _, _, rfl⟩ := hc
      cases hn
  | _ => simp [cOp0] at hc

theorem cOp_some {o : Op} {k : KOp} (h : cOp P nt o = some k) : cOp0 P nt o = some k ∨ k = .nev := by
  unfold cOp at h
  cases hq : cOp0 P nt o with
  | none => rw [hq] at h; simp at h; exact .inr h.symm
  | some k' => rw [hq] at h; simp at h; subst h; exact .inl rfl

theorem op_ok {o : Oper} (he : ERel P ρ e a) (h : HRel P B w0 ρ H w) (hc : cOp P nt o.op = some k) (hn : isCall k = false) (hk : kop k e H = some (v, H')) :
    OpGives P B w0 ρ (execOp a.eval o) w v H' := by
  rcases cOp_some hc with hc | rfl
  · exact op_ok0 he h hc hn hk
  · simp [kop] at hk

end
end Go.Proofs.Ytlboioplemlneaa.K
