/- strings.Repeat, told by the library's contract (laid at this program in plain words). -/
import Derived.Test.YtlboioplemlneaaKLowCode
import Derived.Test.YtlboioplemlneaaRows
import Derived.Shelf.Strings.Repeat
import Derived.Shelf.Strings.OnBuilder
set_option linter.unusedVariables false
namespace Go.Proofs.Ytlboioplemlneaa.K
open Go Go.Proofs Go.Shelf Go.RowKit
def laysRepeat_ren : Go.Shelf.Ren := ⟨fun | 105 => 103 | 212 => 127 | 99 => 128 | 165 => 115 | 166 => 116 | 170 => 129 | 169 => 117 | 263 => 138 | 264 => 139 | 206 => 140 | 240 => 133 | 241 => 134 | 276 => 141 | 277 => 142 | n => n, fun | 9 => 9 | 3 => 3 | 4 => 4 | 20 => 20 | 0 => 0 | 46 => 104 | 109 => 164 | 5 => 5 | 72 => 151 | 76 => 155 | 51 => 92 | 146 => 177 | 53 => 72 | 148 => 179 | 70 => 149 | 37 => 40 | 75 => 154 | 127 => 174 | 164 => 182 | 80 => 79 | n => n, fun | n => n⟩
theorem laysRepeat : Go.Proofs.Lays.n105 Go.Proofs.Try.prog laysRepeat_ren := {
  mixed := by kernel_rfl
  f99 := Go.Proofs.Try.func128.trans (congrArg some (by kernel_rfl))
  f105 := Go.Proofs.Try.func103.trans (congrArg some (by kernel_rfl))
  f165 := Go.Proofs.Try.func115.trans (congrArg some (by kernel_rfl))
  f166 := Go.Proofs.Try.func116.trans (congrArg some (by kernel_rfl))
  f169 := Go.Proofs.Try.func117.trans (congrArg some (by kernel_rfl))
  f170 := Go.Proofs.Try.func129.trans (congrArg some (by kernel_rfl))
  f206 := Go.Proofs.Try.func140.trans (congrArg some (by kernel_rfl))
  f212 := Go.Proofs.Try.func127.trans (congrArg some (by kernel_rfl))
  f240 := Go.Proofs.Try.func133.trans (congrArg some (by kernel_rfl))
  f241 := Go.Proofs.Try.func134.trans (congrArg some (by kernel_rfl))
  f263 := Go.Proofs.Try.func138.trans (congrArg some (by kernel_rfl))
  f264 := Go.Proofs.Try.func139.trans (congrArg some (by kernel_rfl))
  f276 := Go.Proofs.Try.func141.trans (congrArg some (by kernel_rfl))
  f277 := Go.Proofs.Try.func142.trans (congrArg some (by kernel_rfl))
  t0 := Go.Proofs.Try.underlying0
  a0 := Go.Proofs.Try.isAgg0
  z0 := Go.Proofs.Try.sizeOf0
  v0 := Go.Proofs.Try.zeroValue0
  t3 := Go.Proofs.Try.underlying3
  a3 := Go.Proofs.Try.isAgg3
  z3 := Go.Proofs.Try.sizeOf3
  v3 := Go.Proofs.Try.zeroValue3
  t4 := Go.Proofs.Try.underlying4
  a4 := Go.Proofs.Try.isAgg4
  z4 := Go.Proofs.Try.sizeOf4
  v4 := Go.Proofs.Try.zeroValue4
  t5 := Go.Proofs.Try.underlying5
  a5 := Go.Proofs.Try.isAgg5
  z5 := Go.Proofs.Try.sizeOf5
  v5 := Go.Proofs.Try.zeroValue5
  t9 := Go.Proofs.Try.underlying9
  a9 := Go.Proofs.Try.isAgg9
  z9 := Go.Proofs.Try.sizeOf9
  v9 := Go.Proofs.Try.zeroValue9
  t20 := Go.Proofs.Try.underlying20
  a20 := Go.Proofs.Try.isAgg20
  z20 := Go.Proofs.Try.sizeOf20
  v20 := Go.Proofs.Try.zeroValue20
  t37 := Go.Proofs.Try.underlying40
  a37 := Go.Proofs.Try.isAgg40
  z37 := Go.Proofs.Try.sizeOf40
  v37 := Go.Proofs.Try.zeroValue40
  t46 := Go.Proofs.Try.underlying104
  a46 := Go.Proofs.Try.isAgg104
  z46 := Go.Proofs.Try.sizeOf104
  v46 := Go.Proofs.Try.zeroValue104
  t51 := Go.Proofs.Try.underlying92
  a51 := Go.Proofs.Try.isAgg92
  z51 := Go.Proofs.Try.sizeOf92
  v51 := Go.Proofs.Try.zeroValue92
  t53 := Go.Proofs.Try.underlying72
  a53 := Go.Proofs.Try.isAgg72
  z53 := Go.Proofs.Try.sizeOf72
  v53 := Go.Proofs.Try.zeroValue72
  t70 := Go.Proofs.Try.underlying149
  a70 := Go.Proofs.Try.isAgg149
  z70 := Go.Proofs.Try.sizeOf149
  v70 := Go.Proofs.Try.zeroValue149
  t72 := Go.Proofs.Try.underlying151
  a72 := Go.Proofs.Try.isAgg151
  z72 := Go.Proofs.Try.sizeOf151
  v72 := Go.Proofs.Try.zeroValue151
  t75 := Go.Proofs.Try.underlying154
  a75 := Go.Proofs.Try.isAgg154
  z75 := Go.Proofs.Try.sizeOf154
  v75 := Go.Proofs.Try.zeroValue154
  t76 := Go.Proofs.Try.underlying155
  a76 := Go.Proofs.Try.isAgg155
  z76 := Go.Proofs.Try.sizeOf155
  v76 := Go.Proofs.Try.zeroValue155
  t109 := Go.Proofs.Try.underlying164
  a109 := Go.Proofs.Try.isAgg164
  z109 := Go.Proofs.Try.sizeOf164
  v109 := Go.Proofs.Try.zeroValue164
  t127 := Go.Proofs.Try.underlying174
  a127 := Go.Proofs.Try.isAgg174
  z127 := Go.Proofs.Try.sizeOf174
  v127 := Go.Proofs.Try.zeroValue174
  t146 := Go.Proofs.Try.underlying177
  a146 := Go.Proofs.Try.isAgg177
  z146 := Go.Proofs.Try.sizeOf177
  v146 := Go.Proofs.Try.zeroValue177
  t148 := Go.Proofs.Try.underlying179
  a148 := Go.Proofs.Try.isAgg179
  z148 := Go.Proofs.Try.sizeOf179
  v148 := Go.Proofs.Try.zeroValue179
  t164 := Go.Proofs.Try.underlying182
  a164 := Go.Proofs.Try.isAgg182
  z164 := Go.Proofs.Try.sizeOf182
  v164 := Go.Proofs.Try.zeroValue182 }
def laysJoin_ren : Go.Shelf.Ren := ⟨fun | 156 => 82 | 165 => 115 | 166 => 116 | 169 => 117 | 240 => 133 | 241 => 134 | 276 => 141 | 277 => 142 | n => n, fun | 31 => 48 | 9 => 9 | 3 => 3 | 4 => 4 | 0 => 0 | 20 => 20 | 72 => 151 | 76 => 155 | 70 => 149 | 37 => 40 | 75 => 154 | 127 => 174 | 164 => 182 | 5 => 5 | 80 => 79 | n => n, fun | n => n⟩
theorem laysJoin : Go.Proofs.Lays.n156 Go.Proofs.Try.prog laysJoin_ren := {
  mixed := by kernel_rfl
  f156 := Go.Proofs.Try.func82.trans (congrArg some (by kernel_rfl))
  f165 := Go.Proofs.Try.func115.trans (congrArg some (by kernel_rfl))
  f166 := Go.Proofs.Try.func116.trans (congrArg some (by kernel_rfl))
  f169 := Go.Proofs.Try.func117.trans (congrArg some (by kernel_rfl))
  f240 := Go.Proofs.Try.func133.trans (congrArg some (by kernel_rfl))
  f241 := Go.Proofs.Try.func134.trans (congrArg some (by kernel_rfl))
  f276 := Go.Proofs.Try.func141.trans (congrArg some (by kernel_rfl))
  f277 := Go.Proofs.Try.func142.trans (congrArg some (by kernel_rfl))
  t0 := Go.Proofs.Try.underlying0
  a0 := Go.Proofs.Try.isAgg0
  z0 := Go.Proofs.Try.sizeOf0
  v0 := Go.Proofs.Try.zeroValue0
  t3 := Go.Proofs.Try.underlying3
  a3 := Go.Proofs.Try.isAgg3
  z3 := Go.Proofs.Try.sizeOf3
  v3 := Go.Proofs.Try.zeroValue3
  t4 := Go.Proofs.Try.underlying4
  a4 := Go.Proofs.Try.isAgg4
  z4 := Go.Proofs.Try.sizeOf4
  v4 := Go.Proofs.Try.zeroValue4
  t9 := Go.Proofs.Try.underlying9
  a9 := Go.Proofs.Try.isAgg9
  z9 := Go.Proofs.Try.sizeOf9
  v9 := Go.Proofs.Try.zeroValue9
  t20 := Go.Proofs.Try.underlying20
  a20 := Go.Proofs.Try.isAgg20
  z20 := Go.Proofs.Try.sizeOf20
  v20 := Go.Proofs.Try.zeroValue20
  t31 := Go.Proofs.Try.underlying48
  a31 := Go.Proofs.Try.isAgg48
  z31 := Go.Proofs.Try.sizeOf48
  v31 := Go.Proofs.Try.zeroValue48
  t37 := Go.Proofs.Try.underlying40
  a37 := Go.Proofs.Try.isAgg40
  z37 := Go.Proofs.Try.sizeOf40
  v37 := Go.Proofs.Try.zeroValue40
  t70 := Go.Proofs.Try.underlying149
  a70 := Go.Proofs.Try.isAgg149
  z70 := Go.Proofs.Try.sizeOf149
  v70 := Go.Proofs.Try.zeroValue149
  t72 := Go.Proofs.Try.underlying151
  a72 := Go.Proofs.Try.isAgg151
  z72 := Go.Proofs.Try.sizeOf151
  v72 := Go.Proofs.Try.zeroValue151
  t75 := Go.Proofs.Try.underlying154
  a75 := Go.Proofs.Try.isAgg154
  z75 := Go.Proofs.Try.sizeOf154
  v75 := Go.Proofs.Try.zeroValue154
  t76 := Go.Proofs.Try.underlying155
  a76 := Go.Proofs.Try.isAgg155
  z76 := Go.Proofs.Try.sizeOf155
  v76 := Go.Proofs.Try.zeroValue155
  t127 := Go.Proofs.Try.underlying174
  a127 := Go.Proofs.Try.isAgg174
  z127 := Go.Proofs.Try.sizeOf174
  v127 := Go.Proofs.Try.zeroValue174
  t164 := Go.Proofs.Try.underlying182
  a164 := Go.Proofs.Try.isAgg182
  z164 := Go.Proofs.Try.sizeOf182
  v164 := Go.Proofs.Try.zeroValue182 }
theorem repExtra : Builder.Extra Go.Proofs.Try.prog laysRepeat_ren := {
  sizeBuilder := by kernel_rfl
  liesBuilder := by kernel_rfl
  t5 := laysRepeat.t5
  a5 := laysRepeat.a5
  z5 := laysRepeat.z5
  v5 := laysRepeat.v5
  infoByte := by kernel_rfl
  cellsByte := by kernel_rfl
  sizeByte := by kernel_rfl
  neB5 := by decide }
theorem joinExtra : Builder.Extra Go.Proofs.Try.prog laysJoin_ren := {
  sizeBuilder := by kernel_rfl
  liesBuilder := by kernel_rfl
  t5 := laysRepeat.t5
  a5 := laysRepeat.a5
  z5 := laysRepeat.z5
  v5 := laysRepeat.v5
  infoByte := by kernel_rfl
  cellsByte := by kernel_rfl
  sizeByte := by kernel_rfl
  neB5 := by decide }
theorem fJoin : laysJoin_ren.f 156 = 82 := by kernel_rfl
def strsOf : List Value → Option (List ByteArray)
  | [] => some []
  | .string s :: l => (strsOf l).map (s :: ·)
  | _ :: _ => none
def joinP : List Value → Heap → Option (Value × Heap)
  | [.slice a n c, .string sep], H => (kRow H 9 1 n a).bind fun l => (strsOf l).bind fun xs =>
      if n ≤ 1000000 ∧ (Lib.join (xs.map (·.data.toList)) sep.data.toList).length ≤ 1000000000 then some (.string ⟨(Lib.join (xs.map (·.data.toList)) sep.data.toList).toArray⟩, H) else none
  | _, _ => none
theorem strsOf_get : ∀ {l : List Value} {xs : List ByteArray}, strsOf l = some xs → xs.length = l.length ∧ ∀ (i : Nat) x, xs[i]? = some x → l[i]? = some (.string x)
  | [], xs, h => by
    simp only [strsOf, Option.some.injEq] at h
    subst h; exact ⟨rfl, fun i x h => by simp at h⟩
  | v :: l, xs, h => by
    cases v with
    | string s =>
      simp only [strsOf, Option.map_eq_some_iff] at h
      obtain ⟨ys, hy, rfl⟩ := h
      obtain ⟨h1, h2⟩ := strsOf_get hy
      refine ⟨by simp [h1], fun i x hx => ?_⟩
      cases i with
      | zero => simp at hx; subst hx; rfl
      | succ i => simp at hx; simpa using h2 i x hx
    | _ => simp [strsOf] at h
theorem join_ok : PrimOK Go.Proofs.Try.prog 82 joinP := by
  refine ⟨by kernel_rfl, ?_⟩
  intro B w0 args H v H' h ρ w cargs hrel hv
  unfold joinP at h
  split at h
  case h_2 => cases h
  rename_i a n c sep
  simp only [Option.bind_eq_some_iff] at h
  obtain ⟨l, hrow, xs, hxs, h⟩ := h
  split at h
  case isFalse => cases h
  rename_i hlim
  simp only [Option.some.injEq, Prod.mk.injEq] at h
  obtain ⟨rfl, rfl⟩ := h
  obtain ⟨y, hy, h1⟩ := hv.get (i := 0) rfl
  obtain ⟨z, hz, h2⟩ := hv.get (i := 1) rfl
  obtain ⟨hl, -⟩ := hv
  obtain ⟨y', z', rfl⟩ : ∃ y' z', cargs = [y', z'] := by
    match cargs, hl with
    | [a, b], _ => exact ⟨a, b, rfl⟩
  simp at hy hz
  subst hy; subst hz
  cases h2
  obtain ⟨hxl, hxg⟩ := strsOf_get hxs
  have fin : ∀ a' c', Calls Go.Proofs.Try.prog (laysJoin_ren.f 156) #[.slice a' xs.length c', .string sep] w (fun e w' => e = .returned (.string ⟨(Lib.join (xs.map (·.data.toList)) sep.data.toList).toArray⟩) ∧ Below w.heap.size w w') →
      Calls Go.Proofs.Try.prog 82 #[.slice a' xs.length c', .string sep] w fun e w' => ∃ ρ' cv, e = .returned cv ∧ ρ <+: ρ' ∧ VRel Go.Proofs.Try.prog ρ' (.string ⟨(Lib.join (xs.map (·.data.toList)) sep.data.toList).toArray⟩) cv ∧ HRel Go.Proofs.Try.prog B w0 ρ' H w' := fun a' c' hc => by
    rw [fJoin] at hc
    exact hc.mono fun e w' ⟨he, hb⟩ => ⟨ρ, _, he, List.prefix_refl _, .string _, hrel.world (hb.mono hrel.base) hb.block⟩
  have none0 : xs = [] → ∀ a' c', Calls Go.Proofs.Try.prog (laysJoin_ren.f 156) #[.slice a' xs.length c', .string sep] w (fun e w' => e = .returned (.string ⟨(Lib.join (xs.map (·.data.toList)) sep.data.toList).toArray⟩) ∧ Below w.heap.size w w') := fun hx a' c' => by
    subst hx
    exact (Any.strings_Join_none laysJoin joinExtra a' c' sep w).mono fun e w' ⟨he, hw⟩ => ⟨he, hw ▸ Below.refl _ _⟩
  cases h1 with
  | snil =>
    simp only [kRow, if_true, Option.some.injEq] at hrow
    subst hrow
    simp only [strsOf, Option.some.injEq] at hxs
    subst hxs
    exact fin _ _ (none0 rfl _ _)
  | sl0 =>
    have : xs = [] := by
      simp only [kRow] at hrow
      split at hrow
      · split at hrow
        · simp only [rd, Nat.zero_mul, Nat.add_zero, List.take_zero] at hrow
          split at hrow
          · cases hrow; simp only [strsOf, Option.some.injEq] at hxs; exact hxs.symm
          · cases hrow
        · cases hrow
      · cases hrow
    subst this
    exact fin _ _ (none0 rfl _ _)
  | sl hL hn hc hs =>
    rename_i b off c' L
    by_cases hx0 : xs = []
    · have hn0 : n = xs.length := by
        simp only [kRow] at hrow
        split at hrow
        · split at hrow
          · unfold rd at hrow
            split at hrow
            · cases hrow; rw [hxl, List.length_take, List.length_drop]; omega
            · cases hrow
          · cases hrow
        · cases hrow
      rw [hn0]
      exact fin _ _ (none0 hx0 _ _)
    · simp only [kRow] at hrow
      split at hrow
      case h_2 => cases hrow
      rename_i cs t' rw' hg
      split at hrow
      case isFalse => cases hrow
      have hB := hrel.blk b L hL
      rw [hg] at hB
      obtain ⟨_, arr, tw, fr, g1, g2, g3, g4, _⟩ := hB
      unfold rd at hrow
      split at hrow
      case isFalse => cases hrow
      rename_i hlen
      simp only [Nat.mul_one] at hlen hrow
      cases hrow
      have hn0 : xs.length = n := by rw [hxl, List.length_take, List.length_drop]; omega
      have hlt := (Array.getElem?_eq_some_iff.1 g1).1
      have hr := Any.strings_Join laysJoin joinExtra L.block (L.off + off) c' xs sep w (fun j x hx => by
        have hj := hxg j x hx
        rw [List.getElem?_take] at hj
        split at hj
        · rw [List.getElem?_drop] at hj
          obtain ⟨_, y, hy, hvy⟩ := g4 _ _ hj
          cases hvy
          simp only [World.cell?, g1]
          rw [← hy]; simp [Nat.add_assoc]
        · cases hj) hlt (by omega) (by omega) (by omega)
      have := fin _ _ hr
      rw [hn0] at this
      exact this
theorem fRepeat : laysRepeat_ren.f 105 = 103 := by kernel_rfl
def repP : List Value → Heap → Option (Value × Heap)
  | [.string s, .int .i64 n], H => if 0 ≤ n ∧ (s.size : Int) * n ≤ 1000000000 ∧ n ≤ 1000000000 then some (.string ⟨(Lib.repeatL s.data.toList n.toNat).toArray⟩, H) else none
  | _, _ => none
def R : FuncId → Option (List Value → Heap → Option (Value × Heap)) := fun f => if f = 103 then some repP else if f = 82 then some joinP else none
theorem rep_ok : PrimOK Go.Proofs.Try.prog 103 repP := by
  refine ⟨by kernel_rfl, ?_⟩
  intro B w0 args H v H' h ρ w cargs hrel hv
  unfold repP at h
  split at h
  · rename_i s n
    split at h
    · rename_i hc
      obtain ⟨c, rfl⟩ : ∃ c : Nat, n = (c : Int) := ⟨n.toNat, by omega⟩
      simp only [Option.some.injEq, Prod.mk.injEq] at h
      obtain ⟨rfl, rfl⟩ := h
      obtain ⟨y, hy, h1⟩ := hv.get (i := 0) rfl
      obtain ⟨z, hz, h2⟩ := hv.get (i := 1) rfl
      obtain ⟨hl, -⟩ := hv
      obtain ⟨y', z', rfl⟩ : ∃ y' z', cargs = [y', z'] := by
        match cargs, hl with
        | [a, b], _ => exact ⟨a, b, rfl⟩
      simp at hy hz
      subst hy; subst hz
      cases h1; cases h2
      have hcn : s.size * c ≤ 1000000000 := by
        have := hc.2.1
        rw [← Int.natCast_mul] at this
        omega
      have hr := Any.strings_Repeat laysRepeat repExtra s c w (by omega) (by omega)
      rw [fRepeat] at hr
      refine hr.mono fun e w' ⟨he, hb⟩ => ⟨ρ, _, he, List.prefix_refl _, ?_, hrel.world (hb.mono hrel.base) hb.block⟩
      rw [Int.toNat_natCast]
      constructor
    · cases h
  · cases h
theorem R_ok : ∀ f p, R f = some p → PrimOK Go.Proofs.Try.prog f p := fun f p h => by
  unfold R at h
  split at h
  · rename_i hf
    cases h; subst hf; exact rep_ok
  · split at h
    · rename_i hf
      cases h; subst hf; exact join_ok
    · cases h
theorem join_prim : R 82 = some joinP := rfl
theorem rep_prim : R 103 = some repP := rfl
end Go.Proofs.Ytlboioplemlneaa.K
