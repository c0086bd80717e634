/- A finder is made, walked on its own: what stands in memory then, block by block; and the program's functions with this one told so. -/
import Derived.Test.YtjgpbhodbgjggaaGreatKLowPrim0
import Derived.Test.YtjgpbhodbgjggaaGreatKLowSh1
import Derived.Test.YtjgpbhodbgjggaaGreatKF3
import Derived.Test.YtjgpbhodbgjggaaGreatKF4
set_option maxRecDepth 100000
set_option maxHeartbeats 4000000
set_option linter.unusedVariables false
set_option linter.unusedSimpArgs false
namespace Go.Proofs.YtjgpbhodbgjggaaGreat.K
open Go Go.Proofs
def nwV (i : Nat) : List Value := List.replicate i (.int .i64 (-1)) ++ List.replicate (1024 - i) (.int .i64 0)
theorem nwV_len {i : Nat} (h : i ≤ 1024) : (nwV i).length = 1024 := by simp [nwV]; omega
theorem nwV_set {i : Nat} (h : i < 1024) : (nwV i).set i (.int .i64 (-1)) = nwV (i + 1) := by
  unfold nwV
  have e : 1024 - i = (1024 - (i + 1)) + 1 := by omega
  rw [e, List.replicate_succ, List.set_append_right _ _ (by simp), List.length_replicate, Nat.sub_self]
  simp [List.replicate_succ']
theorem zeros1 (v : Value) (n : Nat) : zeros [v] n = List.replicate n v := by simp [zeros]
def nwB (t : Bytes) (x y z : Value) : Blk := .cells [.string (ofL t), x, y, z] 199 true
structure NxI (H0 : Heap) (F : Nat) (t : Bytes) (d : Nat) (e : Fe) (H : Heap) (i : Nat) : Prop where
  hi : i ≤ 1024
  hd : d = 1024 - i
  nx : H.next = F + 2
  kp : Kp F H0 H
  f : H.get F = nwB t (.slice (some ⟨F + 1, 0, none⟩) 1024 1024) (.slice none 0 0) (.slice none 0 0)
  h : H.get (F + 1) = .cells (nwV i) 3 true
  e3 : e 3 = .pointer (some ⟨F, 0, none⟩)
  e20 : e 20 = .int .i64 1024
  e21 : e 21 = .int .i64 i
def nwH (H : Heap) (t : Bytes) : Heap := (((H.push (nwB t (.slice (some ⟨H.next + 1, 0, none⟩) 1024 1024) (.slice (some ⟨H.next + 2, 0, none⟩) t.length t.length) (.slice (some ⟨H.next + 3, 0, none⟩) t.length t.length))).push (.cells (List.replicate 1024 (.int .i64 (-1))) 3 true)).push (.cells (List.replicate t.length (.int .i64 0)) 3 true)).push (.cells (List.replicate t.length (.bool false)) 4 true)
theorem New_x {S : Sys} (hR : S.R 104 = none) (hF : S.F 104 = some k104) {H : Heap} {t : Bytes} (hl : t.length ≤ 2000) : Wf S 104 [.string (ofL t)] H fun v H' => v = .pointer (some ⟨H.next, 0, none⟩) ∧ H' = nwH H t := by
  refine w104 hR hF _ ?_
  obtain ⟨F, hFn⟩ : ∃ F, F = H.next := ⟨_, rfl⟩
  have hmn : min (t.length : Int) 2000 = t.length := by omega
  have hup : ∀ {K : Kv} {H : Heap}, run S (.slS (.c (.string (ofL t))) none (some (.c (.int .i64 t.length)))) [] H K = K (.string (ofL t)) H := fun {K} {H} => by
    rw [s_upto, if_pos ⟨by omega, by omega⟩]; simp
  have hz1 : zeros [.int .i64 0] 1024 = nwV 0 := by rw [zeros1]; rfl
  have hz2 : zeros [.int .i64 0] t.length = List.replicate t.length (.int .i64 0) := zeros1 _ _
  have hz3 : zeros [.bool false] t.length = List.replicate t.length (.bool false) := zeros1 _ _
  obtain ⟨H1, hH1⟩ : ∃ H1, H1 = H.push (nwB t (.slice none 0 0) (.slice none 0 0) (.slice none 0 0)) := ⟨_, rfl⟩
  have n1 : H1.next = F + 1 := by rw [hH1, hFn]; simp
  have g1 : H1.get F = nwB t (.slice none 0 0) (.slice none 0 0) (.slice none 0 0) := by rw [hH1, hFn]; exact get_last
  obtain ⟨H2, hH2⟩ : ∃ H2, H2 = H1.push (.cells (nwV 0) 3 true) := ⟨_, rfl⟩
  have n2 : H2.next = F + 2 := by rw [hH2]; simp [n1]
  have g2 : H2.get F = nwB t (.slice none 0 0) (.slice none 0 0) (.slice none 0 0) := by rw [hH2, get_old (by omega)]; exact g1
  have g2h : H2.get (F + 1) = .cells (nwV 0) 3 true := by rw [hH2, ← n1]; exact get_last
  obtain ⟨H3, hH3⟩ : ∃ H3, H3 = H2.put F (nwB t (.slice (some ⟨F + 1, 0, none⟩) 1024 1024) (.slice none 0 0) (.slice none 0 0)) := ⟨_, rfl⟩
  have n3 : H3.next = F + 2 := by rw [hH3, next_put]; exact n2
  have g3 : H3.get F = nwB t (.slice (some ⟨F + 1, 0, none⟩) 1024 1024) (.slice none 0 0) (.slice none 0 0) := by rw [hH3]; exact get_put_eq (by omega)
  have g3h : H3.get (F + 1) = .cells (nwV 0) 3 true := by rw [hH3, get_put_ne (by omega)]; exact g2h
  have s3 : kSt H2 (.pointer (some ⟨F, 1, none⟩)) (.slice (some ⟨F + 1, 0, none⟩) 1024 1024) = some H3 := by
    rw [hH3]; unfold nwB at *; simp [kSt, g2, oneC]
  have k3 : Kp F H H3 := ⟨by omega, fun k hk => by rw [hH3, get_put_ne (by omega), hH2, get_old (by omega), hH1, get_old (by omega)]⟩
  have e1 : Blk.cells [.string (ofL t), .slice none 0 0, .slice none 0 0, .slice none 0 0] 199 true = nwB t (.slice none 0 0) (.slice none 0 0) (.slice none 0 0) := rfl
  have c1 : (t.length : Int) ≤ 9223372036854775807 := by omega
  have c2 : 8 * (t.length : Int) ≤ 281474976710656 := by omega
  have c3 : (t.length : Int) ≤ 281474976710656 := by omega
  have g3' := g3
  unfold nwB at g3'
  simp [s104, ofL_size, hmn, hup, kFill, evPs, isTup, cellsL, wr, e1, ← hFn, ← hH1, kMks, hz1, ← hH2, n1, addOff, s3, g3']
  refine l104_0 S (fun d e H' => ∃ i, NxI H F t d e H' i) 1024 ⟨0, by omega, rfl, n3, k3, g3, g3h, by simp, by simp, by simp⟩ ?_
  rintro d e H' ⟨i, hi, rfl, nx, kp, f, h, e3, e20, e21⟩
  have f' := f
  unfold nwB at f'
  by_cases hlt : i < 1024
  · have hlt' : (i : Int) < 1024 := by omega
    have hln := nwV_len hi
    obtain ⟨H4, hH4⟩ : ∃ H4, H4 = H'.put (F + 1) (.cells (nwV (i + 1)) 3 true) := ⟨_, rfl⟩
    have s4 : kSt H' (.pointer (some ⟨F + 1, i, none⟩)) (.int .i64 (-1)) = some H4 := by
      rw [hH4, ← nwV_set hlt]
      simp [kSt, h, oneC, hln, hlt]
    have w1 : IntKind.i64.wrap ((i : Int) + 1) = ((i + 1 : Nat) : Int) := by rw [wi (by omega) (by omega)]; omega
    simp [s104_0, e3, e20, e21, hlt, hlt', addOff, f', s4, w1]
    exact ⟨1024 - (i + 1), by omega, i + 1, by omega, rfl, by rw [hH4, next_put]; exact nx, ⟨by rw [hH4, next_put]; exact kp.1, fun k hk => by rw [hH4, get_put_ne (by omega)]; exact kp.2 k hk⟩, by rw [hH4, get_put_ne (by omega)]; exact f, by rw [hH4]; exact get_put_eq (by omega), by simp [e3], by simp [e20], by simp⟩
  · obtain rfl : i = 1024 := by omega
    obtain ⟨H5, hH5⟩ : ∃ H5, H5 = H'.push (.cells (List.replicate t.length (.int .i64 0)) 3 true) := ⟨_, rfl⟩
    have n5 : H5.next = F + 3 := by rw [hH5]; simp [nx]
    have f5 : H5.get F = nwB t (.slice (some ⟨F + 1, 0, none⟩) 1024 1024) (.slice none 0 0) (.slice none 0 0) := by rw [hH5, get_old (by omega)]; exact f
    obtain ⟨H6, hH6⟩ : ∃ H6, H6 = H5.put F (nwB t (.slice (some ⟨F + 1, 0, none⟩) 1024 1024) (.slice (some ⟨F + 2, 0, none⟩) t.length t.length) (.slice none 0 0)) := ⟨_, rfl⟩
    have n6 : H6.next = F + 3 := by rw [hH6, next_put]; exact n5
    have s6 : kSt H5 (.pointer (some ⟨F, 2, none⟩)) (.slice (some ⟨F + 2, 0, none⟩) t.length t.length) = some H6 := by
      rw [hH6]; unfold nwB at *; simp [kSt, f5, oneC]
    have f6 : H6.get F = nwB t (.slice (some ⟨F + 1, 0, none⟩) 1024 1024) (.slice (some ⟨F + 2, 0, none⟩) t.length t.length) (.slice none 0 0) := by rw [hH6]; exact get_put_eq (by omega)
    obtain ⟨H7, hH7⟩ : ∃ H7, H7 = H6.push (.cells (List.replicate t.length (.bool false)) 4 true) := ⟨_, rfl⟩
    have n7 : H7.next = F + 4 := by rw [hH7]; simp [n6]
    have f7 : H7.get F = nwB t (.slice (some ⟨F + 1, 0, none⟩) 1024 1024) (.slice (some ⟨F + 2, 0, none⟩) t.length t.length) (.slice none 0 0) := by rw [hH7, get_old (by omega)]; exact f6
    obtain ⟨H8, hH8⟩ : ∃ H8, H8 = H7.put F (nwB t (.slice (some ⟨F + 1, 0, none⟩) 1024 1024) (.slice (some ⟨F + 2, 0, none⟩) t.length t.length) (.slice (some ⟨F + 3, 0, none⟩) t.length t.length)) := ⟨_, rfl⟩
    have s8 : kSt H7 (.pointer (some ⟨F, 3, none⟩)) (.slice (some ⟨F + 3, 0, none⟩) t.length t.length) = some H8 := by
      rw [hH8]; unfold nwB at *; simp [kSt, f7, oneC]
    have ckS : ∀ (l : Bytes) (H : Heap) (P : Prop), ck (some (Value.string (ofL l), H)) (Value.string (ofL l)) P = P := fun l H P => by
      show (veq _ _ = true ∧ P) = P
      have : veq (Value.string (ofL l)) (Value.string (ofL l)) = true := by simp [veq, veq1]
      rw [this]; simp
    have f5' := f5
    unfold nwB at f5'
    have f7' := f7
    unfold nwB at f7'
    have f6' := f6
    unfold nwB at f6'
    simp [s104_0, e3, e20, e21, addOff, f', ofL_size, kMks, c1, c2, c3, hz2, hz3, nx, ← hH5, kop, f5', ckS]
    simp [s6, n6, ← hH7, kop, f7', f6', ckS, s8]
    have hfull : nwV 1024 = List.replicate 1024 (.int .i64 (-1)) := by unfold nwV; rw [Nat.sub_self]; simp
    rw [hfull] at h
    have hN : (nwH H t).next = F + 4 := by unfold nwH; simp [hFn]
    refine heap_ext (by rw [hN, hH8, next_put]; exact n7) fun j hj => ?_
    have hj : j < F + 4 := by rw [hH8, next_put, n7] at hj; exact hj
    unfold nwH
    rw [← hFn]
    have hcase : j < F ∨ j = F ∨ j = F + 1 ∨ j = F + 2 ∨ j = F + 3 := by omega
    rcases hcase with hc | rfl | rfl | rfl | rfl
    · rw [hH8, get_put_ne (by omega), hH7, get_old (by omega), hH6, get_put_ne (by omega), hH5, get_old (by omega), kp.2 j hc, get_old (by simp; omega), get_old (by simp; omega), get_old (by simp; omega), get_old (by omega)]
    · rw [hH8, get_put_eq (by omega)]
      simp only [hFn]
      rw [get_old (by simp <;> omega), get_old (by simp <;> omega), get_old (by simp), get_last]
    · rw [hH8, get_put_ne (by omega), hH7, get_old (by omega), hH6, get_put_ne (by omega), hH5, get_old (by omega), h]
      simp [hFn]
    · rw [hH8, get_put_ne (by omega), hH7, get_old (by omega), hH6, get_put_ne (by omega), hH5, ← nx, get_last]
      simp [hFn, nx]
    · rw [hH8, get_put_ne (by omega), hH7, ← n6, get_last]
      simp [hFn, n6]
def newP : List Value → Heap → Option (Value × Heap)
  | [.string s], H => if s.data.toList.length ≤ 2000 then some (.pointer (some ⟨H.next, 0, none⟩), nwH H s.data.toList) else none
  | _, _ => none
def S0 : Sys := ⟨F, M, R0, Bk⟩
theorem S0_ok : SysOK Go.Proofs.Tryz.prog S0 := ⟨M_ok, by kernel_rfl, F_ok, R0_ok, Bk_ok⟩
theorem new_ok : PrimOK Go.Proofs.Tryz.prog 104 newP := by
  refine prim_of_wf S0_ok (by kernel_rfl) fun args H v H' h => ?_
  unfold newP at h
  split at h
  · rename_i s
    split at h
    · rename_i hc
      cases h
      have hw := New_x (S := S0) rfl rfl (H := H) hc
      rw [ofL_data] at hw
      exact hw.mono fun v H' ⟨h1, h2⟩ => ⟨h1, h2⟩
    · cases h
  · cases h
def R1 : FuncId → Option (List Value → Heap → Option (Value × Heap)) := fun f => if f = 104 then some newP else R0 f
theorem R1_ok : ∀ f p, R1 f = some p → PrimOK Go.Proofs.Tryz.prog f p := fun f p h => by
  unfold R1 at h
  split at h
  · rename_i hf
    cases h; subst hf; exact new_ok
  · exact R0_ok f p h
def S1 : Sys := ⟨F, M, R1, Bk⟩
theorem S1_ok : SysOK Go.Proofs.Tryz.prog S1 := ⟨M_ok, by kernel_rfl, F_ok, R1_ok, Bk_ok⟩
/- the same for the evaluator -/
def repT (args : List Value) (T : HTr) : Option (Value × HTr) := (repP args []).map fun p => (p.1, T)
def litT : List Value → HTr → Option (Value × HTr)
  | [.string text, .slice a n c], T => if text.size ≤ 1000000 ∧ n ≤ 1000000 then (tRow T 155 3 n a).bind fun cs => (sq3 cs).map fun ss => (.string ⟨(litS text.data.toList ss).toArray⟩, T) else none
  | _, _ => none
def newT : List Value → HTr → Option (Value × HTr)
  | [.string s], T => if s.data.toList.length ≤ 2000 then (T.push (.cells [.string s, .slice (some ⟨T.n + 1, 0, none⟩) 1024 1024, .slice (some ⟨T.n + 2, 0, none⟩) s.data.toList.length s.data.toList.length, .slice (some ⟨T.n + 3, 0, none⟩) s.data.toList.length s.data.toList.length] 199 true)).bind fun T1 => (T1.push (.cells (List.replicate 1024 (.int .i64 (-1))) 3 true)).bind fun T2 => (T2.push (.cells (List.replicate s.data.toList.length (.int .i64 0)) 3 true)).bind fun T3 => (T3.push (.cells (List.replicate s.data.toList.length (.bool false)) 4 true)).map fun T4 => (.pointer (some ⟨T.n, 0, none⟩), T4) else none
  | _, _ => none
def RT1 : FuncId → Option (List Value → HTr → Option (Value × HTr)) := fun f => if f = 84 then some repT else if f = 77 then some litT else if f = 104 then some newT else none
theorem repT_ok (args : List Value) (T : HTr) (H : Heap) (r : Value × HTr) (h : HRl T H) (hk : repT args T = some r) : ∃ H', repP args H = some (r.1, H') ∧ HRl r.2 H' := by
  unfold repT at hk
  cases hq : repP args [] with
  | none => rw [hq] at hk; cases hk
  | some p =>
    rw [hq] at hk; cases hk
    refine ⟨H, ?_, h⟩
    unfold repP at hq ⊢
    split at hq
    · split at hq
      · rename_i hc; rw [if_pos hc]; cases hq; rfl
      · cases hq
    · cases hq
theorem litT_ok (args : List Value) (T : HTr) (H : Heap) (r : Value × HTr) (h : HRl T H) (hk : litT args T = some r) : ∃ H', litP args H = some (r.1, H') ∧ HRl r.2 H' := by
  unfold litT at hk
  split at hk
  · rename_i text a n c
    split at hk
    · rename_i hc
      rw [tRow_ok h] at hk
      unfold litP
      simp only
      rw [if_pos hc]
      cases hr : kRow H 155 3 n a with
      | none => rw [hr] at hk; cases hk
      | some cs =>
        rw [hr] at hk
        simp only [Option.bind_some] at hk ⊢
        cases hs : sq3 cs with
        | none => rw [hs] at hk; cases hk
        | some ss => rw [hs] at hk; cases hk; exact ⟨H, rfl, h⟩
    · cases hk
  · cases hk
theorem newT_ok (args : List Value) (T : HTr) (H : Heap) (r : Value × HTr) (h : HRl T H) (hk : newT args T = some r) : ∃ H', newP args H = some (r.1, H') ∧ HRl r.2 H' := by
  unfold newT at hk
  split at hk
  · rename_i s
    split at hk
    · rename_i hc
      unfold newP
      simp only
      rw [if_pos hc]
      have hn := h.n
      rw [hn] at hk
      cases h1 : T.push (.cells [.string s, .slice (some ⟨H.next + 1, 0, none⟩) 1024 1024, .slice (some ⟨H.next + 2, 0, none⟩) s.data.toList.length s.data.toList.length, .slice (some ⟨H.next + 3, 0, none⟩) s.data.toList.length s.data.toList.length] 199 true) with
      | none => rw [h1] at hk; cases hk
      | some T1 =>
        rw [h1] at hk
        simp only [Option.bind_some] at hk
        cases h2 : T1.push (.cells (List.replicate 1024 (.int .i64 (-1))) 3 true) with
        | none => rw [h2] at hk; cases hk
        | some T2 =>
          rw [h2] at hk
          simp only [Option.bind_some] at hk
          cases h3 : T2.push (.cells (List.replicate s.data.toList.length (.int .i64 0)) 3 true) with
          | none => rw [h3] at hk; cases hk
          | some T3 =>
            rw [h3] at hk
            simp only [Option.bind_some] at hk
            cases h4 : T3.push (.cells (List.replicate s.data.toList.length (.bool false)) 4 true) with
            | none => rw [h4] at hk; cases hk
            | some T4 =>
              rw [h4] at hk; cases hk
              have q := HTr.push_ok (HTr.push_ok (HTr.push_ok (HTr.push_ok h h1) h2) h3) h4
              refine ⟨_, rfl, ?_⟩
              unfold nwH nwB
              rw [ofL_data]
              exact q
    · cases hk
  · cases hk
theorem RT1_ok : RTok S1 RT1 := by
  refine ⟨fun f q h => ?_, fun f h => ?_⟩
  · unfold RT1 at h
    split at h
    · rename_i hf
      cases h; subst hf
      exact ⟨repP, rfl, repT_ok⟩
    · split at h
      · rename_i hf
        cases h; subst hf
        exact ⟨litP, rfl, litT_ok⟩
      · split at h
        · rename_i hf
          cases h; subst hf
          exact ⟨newP, rfl, newT_ok⟩
        · cases h
  · unfold RT1 at h
    show R1 f = none
    unfold R1 R0
    split at h
    · cases h
    · rename_i h1
      split at h
      · cases h
      · rename_i h2
        split at h
        · cases h
        · rename_i h3
          rw [if_neg h3, if_neg h1, if_neg h2]
end Go.Proofs.YtjgpbhodbgjggaaGreat.K
