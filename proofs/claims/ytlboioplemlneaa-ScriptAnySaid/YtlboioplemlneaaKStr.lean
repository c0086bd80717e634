/- Texts of K as lists of bytes. -/
import Derived.Test.YtlboioplemlneaaKLib
set_option linter.unusedVariables false
set_option linter.unusedSimpArgs false
namespace Go.Proofs.Ytlboioplemlneaa.K
open Go
abbrev Bytes := List UInt8
def ofL (l : Bytes) : ByteArray := ⟨l.toArray⟩
theorem ofL_data (s : ByteArray) : ofL s.data.toList = s := by cases s; simp [ofL]
theorem ofL_size (l : Bytes) : (ofL l).size = l.length := by simp [ofL, ByteArray.size]
theorem ofL_list (l : Bytes) : (ofL l).data.toList = l := by simp [ofL]
theorem bs_ofL (l : List Nat) : bs l = ofL (l.map UInt8.ofNat) := rfl
theorem ofL_inj {a b : Bytes} (h : ofL a = ofL b) : a = b := by
  have := congrArg (fun s : ByteArray => s.data.toList) h
  simpa [ofL] using this
theorem ofL_append (a b : Bytes) : ofL a ++ ofL b = ofL (a ++ b) := by
  have h : (ofL a ++ ofL b).data = (ofL (a ++ b)).data := by
    rw [ByteArray.data_append]; simp [ofL]
  cases hx : ofL a ++ ofL b
  cases hy : ofL (a ++ b)
  rw [hx, hy] at h
  simp only at h; rw [h]
theorem ofL_extract (l : Bytes) (a b : Nat) : (ofL l).extract a b = ofL ((l.take b).drop a) := by
  have h : ((ofL l).extract a b).data = (ofL ((l.take b).drop a)).data := by
    rw [ByteArray.data_extract]; simp [ofL, List.extract, List.drop_take]
  cases hx : (ofL l).extract a b
  cases hy : ofL ((l.take b).drop a)
  rw [hx, hy] at h
  simp only at h; rw [h]
theorem toList_ofL (l : Bytes) : (ofL l).toList = l := by
  have h : ∀ s : ByteArray, s.toList = s.data.toList := by
    intro s
    have key : ∀ (n i : Nat) (r : List UInt8), s.size - i = n → ByteArray.toList.loop s i r = r.reverse ++ s.data.toList.drop i := by
      intro n
      induction n with
      | zero =>
        intro i r hn
        unfold ByteArray.toList.loop
        have h1 : ¬ i < s.size := by omega
        rw [if_neg h1, List.drop_of_length_le (by simp; exact Nat.le_of_not_lt h1)]; simp
      | succ n ih =>
        intro i r hn
        unfold ByteArray.toList.loop
        have h1 : i < s.size := by omega
        rw [if_pos h1, ih (i + 1) _ (by omega)]
        have h2 : i < s.data.toList.length := by simpa using h1
        rw [List.drop_eq_getElem_cons h2]
        have h3 : s.get! i = s.data.toList[i] := by
          simp [ByteArray.get!, getElem!_pos, h1]
        simp [h3]
    have := key s.size 0 [] (by omega)
    simpa [ByteArray.toList] using this
  rw [h, ofL_list]
def bv (b : UInt8) : Value := .int .u8 b.toNat
def bvs (l : Bytes) : List Value := l.map bv
theorem byteVals_ofL (l : Bytes) : byteVals (ofL l) = bvs l := by simp [byteVals, ofL, bvs, bv]
theorem kBytes_bvs : ∀ l : Bytes, kBytes (bvs l) = some l
  | [] => rfl
  | b :: l => by
    have := kBytes_bvs l
    simp only [bvs, List.map_cons, kBytes, bv] at *
    rw [this]; simp
theorem bvs_len (l : Bytes) : (bvs l).length = l.length := by simp [bvs]
section
variable {S : Sys} {e : Env} {H : Heap} {K : Kv} {l m : Bytes}
theorem s_len : run S (.lenS (.c (.string (ofL l)))) e H K = K (.int .i64 l.length) H := by rw [run_lenS, ofL_size]
theorem s_eql : kBin .eql (.string (ofL l)) (.string (ofL m)) = some (.bool (decide (l = m))) := by
  show some (Value.bool ((ofL l).toList == (ofL m).toList)) = _
  rw [toList_ofL, toList_ofL]
  congr 2
  by_cases h : l = m <;> simp [h]
theorem s_neq : kBin .neq (.string (ofL l)) (.string (ofL m)) = some (.bool (!decide (l = m))) := by
  show some (Value.bool !((ofL l).toList == (ofL m).toList)) = _
  rw [toList_ofL, toList_ofL]
  congr 3
  by_cases h : l = m <;> simp [h]
theorem s_add (h : ((l.length + m.length : Nat) : Int) ≤ 9223372036854775807) : kBin .add (.string (ofL l)) (.string (ofL m)) = some (.string (ofL (l ++ m))) := by
  show (if (((ofL l).size + (ofL m).size : Nat) : Int) > IntKind.i64.max then none else some (Value.string (ofL l ++ ofL m))) = _
  rw [ofL_size, ofL_size, ofL_append, if_neg]
  have : IntKind.i64.max = 9223372036854775807 := rfl
  omega
theorem s_slice {k k' : IntKind} {a b : Int} : run S (.slS (.c (.string (ofL l))) (some (.c (.int k a))) (some (.c (.int k' b)))) e H K = if 0 ≤ a ∧ a ≤ b ∧ b ≤ l.length then K (.string (ofL ((l.take b.toNat).drop a.toNat))) H else False := by
  show oT ((kSlS (ofL l) a b).map (·, H)) K = _
  unfold kSlS
  rw [ofL_size]
  split
  · rw [ofL_extract]; rfl
  · rfl
theorem s_from {k : IntKind} {a : Int} : run S (.slS (.c (.string (ofL l))) (some (.c (.int k a))) none) e H K = if 0 ≤ a ∧ a ≤ l.length then K (.string (ofL (l.drop a.toNat))) H else False := by
  show oT ((kSlS (ofL l) a (ofL l).size).map (·, H)) K = _
  unfold kSlS
  rw [ofL_size]
  by_cases h : 0 ≤ a ∧ a ≤ l.length
  · rw [if_pos ⟨h.1, h.2, Int.le_refl _⟩, if_pos h, ofL_extract]
    show K (.string (ofL ((l.take (l.length : Int).toNat).drop a.toNat))) H = _
    rw [Int.toNat_natCast, List.take_length]
  · rw [if_neg (fun hh => h ⟨hh.1, hh.2.1⟩), if_neg h]; rfl
theorem s_upto {k : IntKind} {b : Int} : run S (.slS (.c (.string (ofL l))) none (some (.c (.int k b)))) e H K = if 0 ≤ b ∧ b ≤ l.length then K (.string (ofL (l.take b.toNat))) H else False := by
  show oT ((kSlS (ofL l) 0 b).map (·, H)) K = _
  unfold kSlS
  rw [ofL_size]
  by_cases h : 0 ≤ b ∧ b ≤ l.length
  · rw [if_pos ⟨Int.le_refl _, h.1, h.2⟩, if_pos h, ofL_extract]; rfl
  · rw [if_neg (fun hh => h ⟨hh.2.1, hh.2.2⟩), if_neg h]; rfl
theorem s_at {k : IntKind} {i : Nat} {b : UInt8} (h : l[i]? = some b) : run S (.idS (.c (.string (ofL l))) (.c (.int k i))) e H K = K (bv b) H := by
  rw [run_idS, if_pos (by omega)]
  simp only [ofL_list, Int.toNat_natCast, h, Option.map_some, oV_some, bv]
theorem s_s2b {t : TypeId} (h : l.length ≤ roomMax) : run S (.s2b t (.c (.string (ofL l)))) e H K = K (.slice (some ⟨H.next, 0, none⟩) l.length capx) (H.push (.cells (bvs l) t true)) := by
  show oT (if (ofL l).size ≤ roomMax then _ else none) K = _
  rw [ofL_size, if_pos h, byteVals_ofL]; rfl
/-- bytes that may be read, whole -/
theorem s_b2s {t : TypeId} {a : Option Addr} {n c : Nat} (h : kRow H t 1 n a = some (bvs l)) : run S (.b2s t (.c (.slice a n c))) e H K = K (.string (ofL l)) H := by
  show oT ((kRow H t 1 n a).bind fun l => (kBytes l).map fun bs => (.string ⟨bs.toArray⟩, H)) K = _
  rw [h, Option.bind_some, kBytes_bvs]; rfl
end
end Go.Proofs.Ytlboioplemlneaa.K
