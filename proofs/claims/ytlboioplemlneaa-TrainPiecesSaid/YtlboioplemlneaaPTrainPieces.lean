/- The statement TrainPieces: what is chosen of records, and the dictionary of it, is the document's. Proved for all records and sizes. Condition: none. -/
import Derived.Test.YtlboioplemlneaaPF
import Derived.Test.YtlboioplemlneaaRows
import Derived.WalkKit
import Derived.ProofKit
import Derived.OpenShut
set_option maxRecDepth 100000
set_option maxHeartbeats 4000000
set_option linter.unusedVariables false
set_option linter.unusedSimpArgs false
namespace Go.Proofs.Ytlboioplemlneaa.K
open Go Go.Proofs
structure WtI (HB : Heap) (v0 v1 v5 : Value) (out : List Bytes) (d : Nat) (e : Fe) (H : Heap) (i : Nat) : Prop where
  hd : d = out.length - i
  hi : i ≤ out.length
  hH : H = HB
  e0 : e 0 = v0
  e1 : e 1 = v1
  e5 : e 5 = v5
  e6 : e 6 = .string (ofL (out.take i).reverse.flatten)
  e23 : e 23 = v5
  e24 : e 24 = .int .i64 out.length
  e25 : e 25 = .int .i64 i
theorem flat_len (l : List Bytes) : l.reverse.flatten.length = l.flatten.length := by
  rw [List.length_flatten, List.length_flatten, List.map_reverse]
  exact (List.reverse_perm _).sum_nat
theorem lawPieces (kv : Value) (blk : Blk) (size : Int) (hk : ArgSl [.str] 9 0 kv blk) (hnw : (Lit.int .i64 size).wf = true) : Wf S 7 [kv, .int .i64 size] [blk] fun v _ => v = .bool true := by
  obtain ⟨l, hn, hx, hsi⟩ := arg_texts hk
  refine w7 rfl rfl _ _ ?_
  simp [s7]
  refine (awT' blk).mono ?_
  rintro v H1 ⟨rfl, hblk⟩
  have hl := hsi H1 hblk
  simp
  refine (small_t hl hn hx (by omega) (by omega)).mono ?_
  rintro v H2 ⟨rfl, t, rfl, ht⟩
  cases t with
  | false => simp
  | true =>
    obtain ⟨h1, h2⟩ := ht rfl
    simp
    refine (Pieces_t hl (by omega)).mono ?_
    rintro v3 H3 ⟨hk3, out, ob, ho, hob, hpk, hol⟩
    have hl3 := hl.kp hk3
    try simp
    refine (rPieces_t hl3 (by omega)).mono ?_
    rintro v4 H4 ⟨hk4, out2, ob2, ho2, hob2, hpk2, hol2⟩
    have heq : out = out2 := hpk.uniq hpk2.neg
    have ho4 : OutS H4 v3 out ob := ho.get fun b hb => hk4.2 b (by
      rcases ho with ⟨e, _⟩ | ⟨b', e, _, hg⟩
      · rw [hb] at e; cases e
      · rw [hb] at e; cases e; exact lt_cells hg)
    obtain ⟨a3, c3, rfl, hsv3⟩ := ho4.sv
    obtain ⟨a4, c4, rfl, hsv4⟩ := ho2.sv
    try simp
    refine (same_t hsv3 hsv4 (by omega) heq).mono ?_
    rintro v H5 ⟨rfl, rfl⟩
    simp
    have hl5 := hl3.kp hk4
    have hsz := hpk.size (by omega)
    simp only [List.flatten_nil, List.length_nil] at hsz
    refine l7_0 S (fun d e H' => ∃ i, WtI H5 kv (.int .i64 size) (.slice a3 out.length c3) out d e H' i) out.length ⟨0, by omega, by omega, rfl, by simp, by simp, by simp, by simp; rfl, by simp, by simp, by simp⟩ ?_
    rintro d e H6 ⟨i, rfl, hi, rfl, e0, e1, e5, e6, e23, e24, e25⟩
    by_cases h3 : i < out.length
    · obtain ⟨b, o, cs, rw', rfl, hg, hcs⟩ := hsv3 (by omega)
      obtain ⟨r, hr⟩ : ∃ r, out[i]? = some r := ⟨_, List.getElem?_eq_getElem h3⟩
      have hcr := hcs i r hr
      have h3' : (i : Int) < out.length := by omega
      have w2 : IntKind.i64.wrap ((i : Int) + 1) = ((i + 1 : Nat) : Int) := by rw [wi (by omega) (by omega)]; omega
      have hnx : out.take (i + 1) = out.take i ++ [r] := by rw [List.take_add_one, hr, Option.toList_some]
      have hfl : (out.take (i + 1)).reverse.flatten = r ++ (out.take i).reverse.flatten := by rw [hnx]; simp
      have hle : (out.take (i + 1)).reverse.flatten.length ≤ 256 := by
        rw [flat_len]
        have : (out.take (i + 1)).flatten.length ≤ out.flatten.length := by
          have h5 := congrArg (fun x => x.flatten.length) (List.take_append_drop (i + 1) out)
          simp only [List.flatten_append, List.length_append] at h5
          omega
        omega
      rw [hfl, List.length_append] at hle
      have hadd : kBin .add (.string (ofL r)) (.string (ofL (out.take i).reverse.flatten)) = some (.string (ofL (out.take (i + 1)).reverse.flatten)) := by
        rw [hfl]; exact s_add (by omega)
      simp [s7_0, e6, e23, e24, e25, h3, h3', addOff, hg, hcr]
      rw [hadd]
      simp [e25, w2]
      exact ⟨out.length - (i + 1), by omega, i + 1, rfl, by omega, rfl, by simp [e0], by simp [e1], by simp [e5], by simp, by simp [e23], by simp [e24], by simp⟩
    · obtain rfl : i = out.length := by omega
      rw [List.take_length] at e6
      obtain ⟨q, hq⟩ : ∃ q : Int, q = min (max size 0) 256 := ⟨_, rfl⟩
      simp [s7_0, e0, e1, e6, e24, e25]
      refine (Train_t hl5 (by omega)).mono ?_
      rintro v H7 ⟨hk7, out3, hpk3, rfl⟩
      have h33 : out3 = out := hpk3.uniq hpk
      subst h33
      have hflen := flat_len out3
      have hlast : ((out3.reverse.flatten.length : Nat) : Int) ≤ min (max size 0) 256 := by rw [hflen]; omega
      simp [toList_ofL, ofL_size, e6, e1]
      rw [hflen, List.length_flatten] at hlast
      omega
end Go.Proofs.Ytlboioplemlneaa.K
namespace Go.Proofs.Ytlboioplemlneaa.trainPieces
open Go Go.Proofs Go.ChangeShapes Go.WideShapes Go.ChangeAt Go.RowKit
theorem own : ownKnob Try.prog.godebug = none := by kernel_rfl
theorem laid : laidOutB Try.prog = true := by kernel_rfl
set_option maxRecDepth 100000 in
theorem lifted (os : Os) (started : os.Started) (H : Type) (enc : TypeId × Value → H) :
    ReturnsInHanded {} Try.checked os 7 .any (Rows.trainPiecesSpec.pre6 enc Try.prog Try.f7 Rows.trainPiecesRow.domain false) (Rows.trainPiecesSpec.post enc Try.prog Try.f7 false true false false) := by
  refine returnsInHanded_of_change (C := Try.checked) own started (by kernel_rfl) Try.func7
    (ChangeSpec.witness6 (enc := enc) (C := Try.checked) false ⟨#[], #[.slice none 0 0, .int .i64 0], []⟩ 8 (by kernel_rfl) (by kernel_rfl) (by kernel_rfl) (by kernel_rfl)) ?_
  intro W base args ds gs before hval0 hW hcnd _
  have hval : ∀ (j : Nat) t v, Try.f7.params[j]? = some t → args[j]? = some v → Value.okWide Try.prog W .any base t v := hval0
  have hW' := hW
  obtain ⟨p, q, hA0, hV, rfl, hfz, hnd⟩ := hW
  have hA : DataW.TrodAll enc Try.prog W 0 (fun _ => true) true Try.f7.params.toList args.toList ds p := hA0
  rw [Try.params7] at hA hval
  have hA1 := hA
  obtain ⟨v0, vs0, d0, ds0, p0, q0, hargs, rfl, rfl, h0, r0⟩ := trodAll_cons hA
  obtain ⟨v1, vs1, d1, ds1, p1, q1, rfl, rfl, rfl, h1, r1⟩ := trodAll_cons r0
  obtain ⟨rfl, rfl, rfl⟩ := trodAll_nil r1
  obtain rfl : args = #[v0, v1] := by cases args; simp_all
  obtain ⟨rfl, rfl⟩ := trodVars_none hV
  have HR0 := K.HRel.nil (P := Try.prog) W
  have hn0 : ∀ b : Nat, (K.Heap.get [] b).own = false := fun b => rfl
  obtain ⟨a0, b0, ρ1, p1x, x0, HR1, hn1, w0⟩ := K.arg_slice (e := 9) (d := 6) (ks := [.str]) Try.underlying48 (by kernel_rfl) (by kernel_rfl) (by decide) (hval 0 48 v0 rfl rfl) h0 HR0 hn0
  obtain ⟨a1, rfl, _, _, w1⟩ := open_int Try.underlying3 (hval 1 3 v1 rfl rfl) h1
  clear hA0 hval0
  refine (K.calls_of K.S_ok (K.lawPieces a0 b0 a1 w0 w1) HR1 (K.VL.cons x0 (K.VL.cons (K.VRel.int .i64 a1) K.VL.nil))).mono fun e W' ⟨he, hb⟩ => ?_
  subst he
  exact ⟨_, rfl, K.post_of_below (pa := _) (pv := []) hW' (fun _ _ _ => (trodAll_cons_mk (shut_bool Try.underlying4 _) trodAll_mk0)) (fun sp hsp => K.trodAll_stays laid hb hA1 (by
      intro t ht
      replace ht : t ∈ ([48, 3] : List TypeId) := ht
      simp only [List.mem_cons, List.not_mem_nil, or_false] at ht
      rcases ht with rfl | rfl <;> exact ⟨by kernel_rfl, of_decide_eq_true (by kernel_rfl)⟩) (fun x hx => hW'.lt x (by simpa using hx)) (fun x hx => hsp x (by simpa using hx))) (fun _ _ => rfl) rfl
    hb (ok_one (by kernel_rfl) rfl (okWide_bool_mk Try.underlying4 _))⟩
theorem over : Rows.trainPiecesRow.holds Try.pinned (OpenSpec.ofChange Rows.trainPiecesSpec) :=
  OpenClaim.holds_of_wide 7 Try.f7 rfl rfl rfl rfl rfl rfl rfl ⟨rfl, rfl, rfl, rfl, rfl⟩ rfl rfl rfl rfl rfl (by kernel_rfl) Try.func7 (by kernel_rfl)
    (of_decide_eq_true (by kernel_rfl)) (by unfold Func.isWrapper; first | (rw [if_pos (by decide +kernel)]; kernel_rfl) | (rw [if_neg (by decide +kernel)]; exact ⟨rfl, rfl⟩))
    (fun os started H enc _ => lifted os started H enc)
theorem proved : Rows.TrainPiecesSaid :=
  over
end Go.Proofs.Ytlboioplemlneaa.trainPieces
