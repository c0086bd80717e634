/- strings.Repeat, told by the library's contract (laid at this program in plain words). -/
import Derived.Test.YtlboioplemlneaaGreatKLowCode
import Derived.Test.YtlboioplemlneaaGreatRows
import Derived.Shelf.Strings.Repeat
set_option linter.unusedVariables false
namespace Go.Proofs.YtlboioplemlneaaGreat.K
open Go Go.Proofs Go.Shelf
def laysRepeat_ren : Go.Shelf.Ren := ⟨fun | 105 => 25 | 212 => 43 | 99 => 44 | 165 => 45 | 166 => 46 | 170 => 47 | 169 => 48 | 263 => 68 | 264 => 69 | 206 => 70 | 240 => 71 | 241 => 72 | 276 => 89 | 277 => 90 | n => n, fun | 9 => 9 | 3 => 3 | 4 => 4 | 20 => 20 | 0 => 0 | 46 => 69 | 109 => 70 | 5 => 5 | 72 => 74 | 76 => 78 | 51 => 93 | 146 => 97 | 53 => 38 | 148 => 99 | 70 => 72 | 37 => 41 | 75 => 77 | 127 => 101 | 164 => 122 | 80 => 30 | n => n, fun | n => n⟩
theorem laysRepeat : Go.Proofs.Lays.n105 Go.Proofs.Tryz.prog laysRepeat_ren := {
  mixed := by kernel_rfl
  f99 := Go.Proofs.Tryz.func44.trans (congrArg some (by kernel_rfl))
  f105 := Go.Proofs.Tryz.func25.trans (congrArg some (by kernel_rfl))
  f165 := Go.Proofs.Tryz.func45.trans (congrArg some (by kernel_rfl))
  f166 := Go.Proofs.Tryz.func46.trans (congrArg some (by kernel_rfl))
  f169 := Go.Proofs.Tryz.func48.trans (congrArg some (by kernel_rfl))
  f170 := Go.Proofs.Tryz.func47.trans (congrArg some (by kernel_rfl))
  f206 := Go.Proofs.Tryz.func70.trans (congrArg some (by kernel_rfl))
  f212 := Go.Proofs.Tryz.func43.trans (congrArg some (by kernel_rfl))
  f240 := Go.Proofs.Tryz.func71.trans (congrArg some (by kernel_rfl))
  f241 := Go.Proofs.Tryz.func72.trans (congrArg some (by kernel_rfl))
  f263 := Go.Proofs.Tryz.func68.trans (congrArg some (by kernel_rfl))
  f264 := Go.Proofs.Tryz.func69.trans (congrArg some (by kernel_rfl))
  f276 := Go.Proofs.Tryz.func89.trans (congrArg some (by kernel_rfl))
  f277 := Go.Proofs.Tryz.func90.trans (congrArg some (by kernel_rfl))
  t0 := Go.Proofs.Tryz.underlying0
  a0 := Go.Proofs.Tryz.isAgg0
  z0 := Go.Proofs.Tryz.sizeOf0
  v0 := Go.Proofs.Tryz.zeroValue0
  t3 := Go.Proofs.Tryz.underlying3
  a3 := Go.Proofs.Tryz.isAgg3
  z3 := Go.Proofs.Tryz.sizeOf3
  v3 := Go.Proofs.Tryz.zeroValue3
  t4 := Go.Proofs.Tryz.underlying4
  a4 := Go.Proofs.Tryz.isAgg4
  z4 := Go.Proofs.Tryz.sizeOf4
  v4 := Go.Proofs.Tryz.zeroValue4
  t5 := Go.Proofs.Tryz.underlying5
  a5 := Go.Proofs.Tryz.isAgg5
  z5 := Go.Proofs.Tryz.sizeOf5
  v5 := Go.Proofs.Tryz.zeroValue5
  t9 := Go.Proofs.Tryz.underlying9
  a9 := Go.Proofs.Tryz.isAgg9
  z9 := Go.Proofs.Tryz.sizeOf9
  v9 := Go.Proofs.Tryz.zeroValue9
  t20 := Go.Proofs.Tryz.underlying20
  a20 := Go.Proofs.Tryz.isAgg20
  z20 := Go.Proofs.Tryz.sizeOf20
  v20 := Go.Proofs.Tryz.zeroValue20
  t37 := Go.Proofs.Tryz.underlying41
  a37 := Go.Proofs.Tryz.isAgg41
  z37 := Go.Proofs.Tryz.sizeOf41
  v37 := Go.Proofs.Tryz.zeroValue41
  t46 := Go.Proofs.Tryz.underlying69
  a46 := Go.Proofs.Tryz.isAgg69
  z46 := Go.Proofs.Tryz.sizeOf69
  v46 := Go.Proofs.Tryz.zeroValue69
  t51 := Go.Proofs.Tryz.underlying93
  a51 := Go.Proofs.Tryz.isAgg93
  z51 := Go.Proofs.Tryz.sizeOf93
  v51 := Go.Proofs.Tryz.zeroValue93
  t53 := Go.Proofs.Tryz.underlying38
  a53 := Go.Proofs.Tryz.isAgg38
  z53 := Go.Proofs.Tryz.sizeOf38
  v53 := Go.Proofs.Tryz.zeroValue38
  t70 := Go.Proofs.Tryz.underlying72
  a70 := Go.Proofs.Tryz.isAgg72
  z70 := Go.Proofs.Tryz.sizeOf72
  v70 := Go.Proofs.Tryz.zeroValue72
  t72 := Go.Proofs.Tryz.underlying74
  a72 := Go.Proofs.Tryz.isAgg74
  z72 := Go.Proofs.Tryz.sizeOf74
  v72 := Go.Proofs.Tryz.zeroValue74
  t75 := Go.Proofs.Tryz.underlying77
  a75 := Go.Proofs.Tryz.isAgg77
  z75 := Go.Proofs.Tryz.sizeOf77
  v75 := Go.Proofs.Tryz.zeroValue77
  t76 := Go.Proofs.Tryz.underlying78
  a76 := Go.Proofs.Tryz.isAgg78
  z76 := Go.Proofs.Tryz.sizeOf78
  v76 := Go.Proofs.Tryz.zeroValue78
  t109 := Go.Proofs.Tryz.underlying70
  a109 := Go.Proofs.Tryz.isAgg70
  z109 := Go.Proofs.Tryz.sizeOf70
  v109 := Go.Proofs.Tryz.zeroValue70
  t127 := Go.Proofs.Tryz.underlying101
  a127 := Go.Proofs.Tryz.isAgg101
  z127 := Go.Proofs.Tryz.sizeOf101
  v127 := Go.Proofs.Tryz.zeroValue101
  t146 := Go.Proofs.Tryz.underlying97
  a146 := Go.Proofs.Tryz.isAgg97
  z146 := Go.Proofs.Tryz.sizeOf97
  v146 := Go.Proofs.Tryz.zeroValue97
  t148 := Go.Proofs.Tryz.underlying99
  a148 := Go.Proofs.Tryz.isAgg99
  z148 := Go.Proofs.Tryz.sizeOf99
  v148 := Go.Proofs.Tryz.zeroValue99
  t164 := Go.Proofs.Tryz.underlying122
  a164 := Go.Proofs.Tryz.isAgg122
  z164 := Go.Proofs.Tryz.sizeOf122
  v164 := Go.Proofs.Tryz.zeroValue122 }
theorem repExtra : Builder.Extra Go.Proofs.Tryz.prog laysRepeat_ren := {
  sizeBuilder := by kernel_rfl
  liesBuilder := by kernel_rfl
  t5 := laysRepeat.t5
  a5 := laysRepeat.a5
  z5 := laysRepeat.z5
  v5 := laysRepeat.v5
  infoByte := by kernel_rfl
  cellsByte := by kernel_rfl
  sizeByte := by kernel_rfl
  neB5 := by decide }
theorem fRepeat : laysRepeat_ren.f 105 = 25 := by kernel_rfl
def repP : List Value → Heap → Option (Value × Heap)
  | [.string s, .int .i64 n], H => if 0 ≤ n ∧ (s.size : Int) * n ≤ 1000000000 ∧ n ≤ 1000000000 then some (.string ⟨(Lib.repeatL s.data.toList n.toNat).toArray⟩, H) else none
  | _, _ => none
def R : FuncId → Option (List Value → Heap → Option (Value × Heap)) := fun f => if f = 25 then some repP else none
theorem rep_ok : PrimOK Go.Proofs.Tryz.prog 25 repP := by
  refine ⟨by kernel_rfl, ?_⟩
  intro B w0 args H v H' h ρ w cargs hrel hv
  unfold repP at h
  split at h
  · rename_i s n
    split at h
    · rename_i hc
      obtain ⟨c, rfl⟩ : ∃ c : Nat, n = (c : Int) := ⟨n.toNat, by omega⟩
      simp only [Option.some.injEq, Prod.mk.injEq] at h
      obtain ⟨rfl, rfl⟩ := h
      obtain ⟨y, hy, h1⟩ := hv.get (i := 0) rfl
      obtain ⟨z, hz, h2⟩ := hv.get (i := 1) rfl
      obtain ⟨hl, -⟩ := hv
      obtain ⟨y', z', rfl⟩ : ∃ y' z', cargs = [y', z'] := by
        match cargs, hl with
        | [a, b], _ => exact ⟨a, b, rfl⟩
      simp at hy hz
      subst hy; subst hz
      cases h1; cases h2
      have hcn : s.size * c ≤ 1000000000 := by
        have := hc.2.1
        rw [← Int.natCast_mul] at this
        omega
      have hr := Any.strings_Repeat laysRepeat repExtra s c w (by omega) (by omega)
      rw [fRepeat] at hr
      refine hr.mono fun e w' ⟨he, hb⟩ => ⟨ρ, _, he, List.prefix_refl _, ?_, hrel.world (hb.mono hrel.base) hb.block⟩
      rw [Int.toNat_natCast]
      constructor
    · cases h
  · cases h
theorem R_ok : ∀ f p, R f = some p → PrimOK Go.Proofs.Tryz.prog f p := fun f p h => by
  unfold R at h
  split at h
  · rename_i hf
    cases h; subst hf; exact rep_ok
  · cases h
theorem rep_prim : R 25 = some repP := rfl
end Go.Proofs.YtlboioplemlneaaGreat.K
