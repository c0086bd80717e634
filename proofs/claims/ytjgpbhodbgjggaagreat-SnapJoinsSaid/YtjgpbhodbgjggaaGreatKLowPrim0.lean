/- Functions that are told otherwise than by their code: strings.Repeat by the library's contract (laid at this program in plain words); parse.Literals, by the contracts of strings.Builder; the function of slices.Backward. -/
import Derived.Test.YtjgpbhodbgjggaaGreatKLowCode
import Derived.Test.YtjgpbhodbgjggaaGreatKF3
import Derived.Test.YtjgpbhodbgjggaaGreatRows
import Derived.Shelf.Strings.Repeat
import Derived.Shelf.Strings.BuilderK
import Derived.TacticsIn
import Derived.TacticsInMore
import Derived.LoopIn
import Derived.LoopNIn
import Derived.WalkKit
import Derived.RegionIn
set_option maxRecDepth 100000
set_option maxHeartbeats 4000000
set_option linter.unusedVariables false
set_option linter.unusedSimpArgs false
namespace Go.Proofs.YtjgpbhodbgjggaaGreat.K
open Go Go.Proofs Go.Shelf Go.RowKit
def laysRepeat_ren : Go.Shelf.Ren := ⟨fun | 105 => 84 | 212 => 120 | 99 => 121 | 165 => 98 | 166 => 99 | 170 => 122 | 169 => 100 | 263 => 158 | 264 => 159 | 206 => 160 | 240 => 142 | 241 => 143 | 276 => 177 | 277 => 178 | n => n, fun | 9 => 9 | 3 => 3 | 4 => 4 | 20 => 20 | 0 => 0 | 46 => 127 | 109 => 172 | 5 => 5 | 72 => 142 | 76 => 146 | 51 => 166 | 146 => 212 | 53 => 31 | 148 => 214 | 70 => 140 | 37 => 95 | 75 => 145 | 127 => 196 | 164 => 240 | 80 => 82 | n => n, fun | n => n⟩
theorem laysRepeat : Go.Proofs.Lays.n105 Go.Proofs.Tryz.prog laysRepeat_ren := {
  mixed := by kernel_rfl
  f99 := Go.Proofs.Tryz.func121.trans (congrArg some (by kernel_rfl))
  f105 := Go.Proofs.Tryz.func84.trans (congrArg some (by kernel_rfl))
  f165 := Go.Proofs.Tryz.func98.trans (congrArg some (by kernel_rfl))
  f166 := Go.Proofs.Tryz.func99.trans (congrArg some (by kernel_rfl))
  f169 := Go.Proofs.Tryz.func100.trans (congrArg some (by kernel_rfl))
  f170 := Go.Proofs.Tryz.func122.trans (congrArg some (by kernel_rfl))
  f206 := Go.Proofs.Tryz.func160.trans (congrArg some (by kernel_rfl))
  f212 := Go.Proofs.Tryz.func120.trans (congrArg some (by kernel_rfl))
  f240 := Go.Proofs.Tryz.func142.trans (congrArg some (by kernel_rfl))
  f241 := Go.Proofs.Tryz.func143.trans (congrArg some (by kernel_rfl))
  f263 := Go.Proofs.Tryz.func158.trans (congrArg some (by kernel_rfl))
  f264 := Go.Proofs.Tryz.func159.trans (congrArg some (by kernel_rfl))
  f276 := Go.Proofs.Tryz.func177.trans (congrArg some (by kernel_rfl))
  f277 := Go.Proofs.Tryz.func178.trans (congrArg some (by kernel_rfl))
  t0 := Go.Proofs.Tryz.underlying0
  a0 := Go.Proofs.Tryz.isAgg0
  z0 := Go.Proofs.Tryz.sizeOf0
  v0 := Go.Proofs.Tryz.zeroValue0
  t3 := Go.Proofs.Tryz.underlying3
  a3 := Go.Proofs.Tryz.isAgg3
  z3 := Go.Proofs.Tryz.sizeOf3
  v3 := Go.Proofs.Tryz.zeroValue3
  t4 := Go.Proofs.Tryz.underlying4
  a4 := Go.Proofs.Tryz.isAgg4
  z4 := Go.Proofs.Tryz.sizeOf4
  v4 := Go.Proofs.Tryz.zeroValue4
  t5 := Go.Proofs.Tryz.underlying5
  a5 := Go.Proofs.Tryz.isAgg5
  z5 := Go.Proofs.Tryz.sizeOf5
  v5 := Go.Proofs.Tryz.zeroValue5
  t9 := Go.Proofs.Tryz.underlying9
  a9 := Go.Proofs.Tryz.isAgg9
  z9 := Go.Proofs.Tryz.sizeOf9
  v9 := Go.Proofs.Tryz.zeroValue9
  t20 := Go.Proofs.Tryz.underlying20
  a20 := Go.Proofs.Tryz.isAgg20
  z20 := Go.Proofs.Tryz.sizeOf20
  v20 := Go.Proofs.Tryz.zeroValue20
  t37 := Go.Proofs.Tryz.underlying95
  a37 := Go.Proofs.Tryz.isAgg95
  z37 := Go.Proofs.Tryz.sizeOf95
  v37 := Go.Proofs.Tryz.zeroValue95
  t46 := Go.Proofs.Tryz.underlying127
  a46 := Go.Proofs.Tryz.isAgg127
  z46 := Go.Proofs.Tryz.sizeOf127
  v46 := Go.Proofs.Tryz.zeroValue127
  t51 := Go.Proofs.Tryz.underlying166
  a51 := Go.Proofs.Tryz.isAgg166
  z51 := Go.Proofs.Tryz.sizeOf166
  v51 := Go.Proofs.Tryz.zeroValue166
  t53 := Go.Proofs.Tryz.underlying31
  a53 := Go.Proofs.Tryz.isAgg31
  z53 := Go.Proofs.Tryz.sizeOf31
  v53 := Go.Proofs.Tryz.zeroValue31
  t70 := Go.Proofs.Tryz.underlying140
  a70 := Go.Proofs.Tryz.isAgg140
  z70 := Go.Proofs.Tryz.sizeOf140
  v70 := Go.Proofs.Tryz.zeroValue140
  t72 := Go.Proofs.Tryz.underlying142
  a72 := Go.Proofs.Tryz.isAgg142
  z72 := Go.Proofs.Tryz.sizeOf142
  v72 := Go.Proofs.Tryz.zeroValue142
  t75 := Go.Proofs.Tryz.underlying145
  a75 := Go.Proofs.Tryz.isAgg145
  z75 := Go.Proofs.Tryz.sizeOf145
  v75 := Go.Proofs.Tryz.zeroValue145
  t76 := Go.Proofs.Tryz.underlying146
  a76 := Go.Proofs.Tryz.isAgg146
  z76 := Go.Proofs.Tryz.sizeOf146
  v76 := Go.Proofs.Tryz.zeroValue146
  t109 := Go.Proofs.Tryz.underlying172
  a109 := Go.Proofs.Tryz.isAgg172
  z109 := Go.Proofs.Tryz.sizeOf172
  v109 := Go.Proofs.Tryz.zeroValue172
  t127 := Go.Proofs.Tryz.underlying196
  a127 := Go.Proofs.Tryz.isAgg196
  z127 := Go.Proofs.Tryz.sizeOf196
  v127 := Go.Proofs.Tryz.zeroValue196
  t146 := Go.Proofs.Tryz.underlying212
  a146 := Go.Proofs.Tryz.isAgg212
  z146 := Go.Proofs.Tryz.sizeOf212
  v146 := Go.Proofs.Tryz.zeroValue212
  t148 := Go.Proofs.Tryz.underlying214
  a148 := Go.Proofs.Tryz.isAgg214
  z148 := Go.Proofs.Tryz.sizeOf214
  v148 := Go.Proofs.Tryz.zeroValue214
  t164 := Go.Proofs.Tryz.underlying240
  a164 := Go.Proofs.Tryz.isAgg240
  z164 := Go.Proofs.Tryz.sizeOf240
  v164 := Go.Proofs.Tryz.zeroValue240 }
theorem repExtra : Builder.Extra Go.Proofs.Tryz.prog laysRepeat_ren := {
  sizeBuilder := by kernel_rfl
  liesBuilder := by kernel_rfl
  t5 := laysRepeat.t5
  a5 := laysRepeat.a5
  z5 := laysRepeat.z5
  v5 := laysRepeat.v5
  infoByte := by kernel_rfl
  cellsByte := by kernel_rfl
  sizeByte := by kernel_rfl
  neB5 := by decide }
theorem fRepeat : laysRepeat_ren.f 105 = 84 := by kernel_rfl
def repP : List Value → Heap → Option (Value × Heap)
  | [.string s, .int .i64 n], H => if 0 ≤ n ∧ (s.size : Int) * n ≤ 1000000000 ∧ n ≤ 1000000000 then some (.string ⟨(Lib.repeatL s.data.toList n.toNat).toArray⟩, H) else none
  | _, _ => none
theorem rep_ok : PrimOK Go.Proofs.Tryz.prog 84 repP := by
  refine ⟨by kernel_rfl, ?_⟩
  intro B w0 args H v H' h ρ w cargs hrel hv
  unfold repP at h
  split at h
  · rename_i s n
    split at h
    · rename_i hc
      obtain ⟨c, rfl⟩ : ∃ c : Nat, n = (c : Int) := ⟨n.toNat, by omega⟩
      simp only [Option.some.injEq, Prod.mk.injEq] at h
      obtain ⟨rfl, rfl⟩ := h
      obtain ⟨y, hy, h1⟩ := hv.get (i := 0) rfl
      obtain ⟨z, hz, h2⟩ := hv.get (i := 1) rfl
      obtain ⟨hl, -⟩ := hv
      obtain ⟨y', z', rfl⟩ : ∃ y' z', cargs = [y', z'] := by
        match cargs, hl with
        | [a, b], _ => exact ⟨a, b, rfl⟩
      simp at hy hz
      subst hy; subst hz
      cases h1; cases h2
      have hcn : s.size * c ≤ 1000000000 := by
        have := hc.2.1
        rw [← Int.natCast_mul] at this
        omega
      have hr := Any.strings_Repeat laysRepeat repExtra s c w (by omega) (by omega)
      rw [fRepeat] at hr
      refine hr.mono fun e w' ⟨he, hb⟩ => ⟨ρ, _, he, List.prefix_refl _, ?_, hrel.world ⟨hb.os, hb.tape, hb.output, hb.size, fun k hk => hb.block k (hrel.base k hk)⟩ hb.block⟩
      rw [Int.toNat_natCast]
      constructor
    · cases h
  · cases h
def litS : List UInt8 → List (Int × Int × Int) → List UInt8
  | t, [] => t
  | t, s :: l => t.take s.1.toNat ++ litS ((t.drop s.1.toNat).drop s.2.1.toNat) l
def sq3c (l : List (Int × Int × Int)) : List Value := l.flatMap fun s => [.int .i64 s.1, .int .i64 s.2.1, .int .i64 s.2.2]
def mN (n : Nat) : Value → Nat
  | .int _ x => n - x.toNat
  | _ => 0
theorem min_max (x : Int) (n : Nat) : (if (n : Int) < (if 0 > x then 0 else x) then (n : Int) else (if 0 > x then 0 else x)) = ((min x.toNat n : Nat) : Int) := by
  split <;> split at * <;> omega
theorem bld_alloc {T e : TypeId} {B b : Nat} {bs : List Value} {w : World} (h : Lib.IsBuilderF T e B b bs w) (o : Obj) : Lib.IsBuilderF T e B b bs (w.alloc o) := by
  have key : ∀ p, Lib.BuilderAtF T e B b p bs w → Lib.BuilderAtF T e B b p bs (w.alloc o) := by
    rintro p ⟨h1, v, h2, h3, h4⟩
    have keep : ∀ {g : Nat} {x : Obj}, w.heap[g]? = some x → (w.alloc o).heap[g]? = some x := fun {g x} hg => (Below.heap_alloc _ _ _ (Array.getElem?_eq_some_iff.1 hg).1).trans hg
    refine ⟨h1, v, keep h2, ⟨h3.1, ?_⟩, h4⟩
    rcases h3.2 with h5 | ⟨g, cap, cur, fz, a1, a2, a3, a4⟩
    · exact .inl h5
    · exact .inr ⟨g, cap, cur, fz, a1, a2, keep a3, a4⟩
  exact h.imp (key _) (key _)
theorem rmax (x : Int) (ts : Array TypeId) (t : TypeId) (w : World) : (Builtin.max_ ts t #[.int .i64 x, .int .i64 0]).run Go.Proofs.Tryz.prog w = .ok (.int .i64 (x.toNat : Nat)) w := by
  simp [Builtin.max_, Builtin.max2]
  omega
theorem rmin (x y : Nat) (ts : Array TypeId) (t : TypeId) (w : World) : (Builtin.min_ ts t #[.int .i64 x, .int .i64 y]).run Go.Proofs.Tryz.prog w = .ok (.int .i64 (min x y : Nat)) w := by
  simp [Builtin.min_, Builtin.min2]
  omega
theorem ext_drop (t : ByteArray) (m : Nat) (hm : t.size = m) (x : Int) : (t.extract (min (max x 0) (m : Int)).toNat m).data.toList = t.data.toList.drop x.toNat := by
  subst hm
  rw [Lib.extract_data]
  obtain ⟨l, hl⟩ : ∃ l, l = t.data.toList := ⟨_, rfl⟩
  rw [← hl]
  have hsz : t.size = l.length := by rw [hl]; exact Lib.size_eq t
  rw [hsz, List.take_of_length_le (by simp)]
  rcases Nat.lt_or_ge x.toNat l.length with h | h
  · congr 1; omega
  · rw [List.drop_eq_nil_of_le (by omega), List.drop_eq_nil_of_le (by omega)]
theorem ext_take (t : ByteArray) (x : Int) : (t.extract 0 (min (max x 0) (t.size : Int)).toNat).data.toList = t.data.toList.take x.toNat := by
  rw [Lib.extract_data]
  obtain ⟨l, hl⟩ : ∃ l, l = t.data.toList := ⟨_, rfl⟩
  rw [← hl]
  have hsz : t.size = l.length := by rw [hl]; exact Lib.size_eq t
  rw [hsz, List.drop_zero, Nat.sub_zero]
  rcases Nat.lt_or_ge x.toNat l.length with h | h
  · congr 1; omega
  · rw [List.take_of_length_le (by omega), List.take_of_length_le (by omega)]
theorem lit_w (text : ByteArray) (hts : text.size ≤ 1000000) (ss : List (Int × Int × Int)) (hn : ss.length ≤ 1000000) (a : Option Addr) (k : Nat) (W : World)
    (hsv : ss = [] ∨ ∃ b o, a = some ⟨b, o, none⟩ ∧ b < W.heap.size ∧ ∀ (j : Nat) v, (sq3c ss)[j]? = some v → W.cell? ⟨b, o + j, none⟩ = some v) :
    Calls Go.Proofs.Tryz.prog 77 #[.string text, .slice a ss.length k] W fun e w' => e = .returned (.string ⟨(litS text.data.toList ss).toArray⟩) ∧ Below W.heap.size W w' := by
  have mixed : Go.Proofs.Tryz.prog.follows .mixedOrders = true := by kernel_rfl
  have t108 := Go.Proofs.Tryz.underlying108; have a108 := Go.Proofs.Tryz.isAgg108; have z108 := Go.Proofs.Tryz.sizeOf108; have v108 := Go.Proofs.Tryz.zeroValue108
  have t155 := Go.Proofs.Tryz.underlying155; have a155 := Go.Proofs.Tryz.isAgg155; have z155 := Go.Proofs.Tryz.sizeOf155; have v155 := Go.Proofs.Tryz.zeroValue155
  have t142 := Go.Proofs.Tryz.underlying142; have a142 := Go.Proofs.Tryz.isAgg142; have z142 := Go.Proofs.Tryz.sizeOf142; have v142 := Go.Proofs.Tryz.zeroValue142
  have t3 := Go.Proofs.Tryz.underlying3; have a3 := Go.Proofs.Tryz.isAgg3; have z3 := Go.Proofs.Tryz.sizeOf3; have v3 := Go.Proofs.Tryz.zeroValue3
  have t4 := Go.Proofs.Tryz.underlying4; have a4 := Go.Proofs.Tryz.isAgg4; have z4 := Go.Proofs.Tryz.sizeOf4; have v4 := Go.Proofs.Tryz.zeroValue4
  have t9 := Go.Proofs.Tryz.underlying9; have a9 := Go.Proofs.Tryz.isAgg9; have z9 := Go.Proofs.Tryz.sizeOf9; have v9 := Go.Proofs.Tryz.zeroValue9
  have u108 := run_underlying t108; have u155 := run_underlying t155; have u142 := run_underlying t142; have u3 := run_underlying t3; have u4 := run_underlying t4; have u9 := run_underlying t9
  have hnt : Go.Proofs.Tryz.f77.ntmps = 40 := by kernel_rfl
  have e99 : ∀ args w, (callFunc 99 args).run Go.Proofs.Tryz.prog w = .ok (.enter 99 args) w := enters_of Go.Proofs.Tryz.func99 (by kernel_rfl) rfl
  have e100 : ∀ args w, (callFunc 100 args).run Go.Proofs.Tryz.prog w = .ok (.enter 100 args) w := enters_of Go.Proofs.Tryz.func100 (by kernel_rfl) rfl
  go_enter Go.Proofs.Tryz.func77, hnt
  go_wp2
  have b0 : Below W.heap.size W (W.alloc (.cells #[.pointer none, .slice none 0 0] 142)) := (Below.refl _ W).alloc (Nat.le_refl _) _
  have h00 : Lib.IsBuilderF (laysRepeat_ren.t 72) (laysRepeat_ren.t 5) W.heap.size W.heap.size (Lib.byteCells []) (W.alloc (.cells #[.pointer none, .slice none 0 0] 142)) := by
    exact .inl ⟨Nat.le_refl _, _, heap_alloc_new W _, ⟨rfl, .inl ⟨rfl, rfl⟩⟩, by simp [Value.ownBlock]⟩
  go_loopw [0, 11] (fun s0 s11 wx => ∃ (i : Nat) (t : ByteArray) (dn : List UInt8), i ≤ ss.length ∧ s11 = .int .i64 i ∧ s0 = .string t ∧ litS text.data.toList ss = dn ++ litS t.data.toList (ss.drop i) ∧ dn.length + t.size ≤ text.size ∧ Lib.IsBuilderF (laysRepeat_ren.t 72) (laysRepeat_ren.t 5) W.heap.size W.heap.size (Lib.byteCells dn) wx ∧ Below W.heap.size W wx)
    (fun s0 s11 wx => mN ss.length s11)
  case atStart => exact ⟨0, text, [], by omega, rfl, rfl, rfl, by simp, h00, b0⟩
  case round =>
    obtain ⟨i, t, dn, hi, rfl, rfl, hlit, hsz, hB, hb⟩ := hrel
    by_cases hin : i = ss.length
    · subst hin
      have cW := Any.Builder_WriteString_f { laysRepeat with } repExtra W.heap.size W.heap.size (Lib.byteCells dn) t wr hB (by rw [Lib.byteCells_length]; omega) hb.size
      go_wp2_with (go_at_fn 99; go_fit cW; rintro e W2 ⟨rfl, h2, b2⟩)
      rw [Lib.strCells_eq, ← Lib.byteCells_append] at h2
      have cS := Any.Builder_String_any_f { laysRepeat with } repExtra W.heap.size W.heap.size (dn ++ t.data.toList) W2 (.inr h2) (Nat.le_trans hb.size b2.size)
      go_wp2_with (go_at_fn 100; go_fit cS; rintro e W3 ⟨rfl, h3, b3⟩)
      go_ret
      refine ⟨?_, hb.trans (b2.trans b3)⟩
      rw [hlit, List.drop_length]; rfl
    · rcases hsv with rfl | ⟨b, o, rfl, hbl, hcell⟩
      · simp at hi; simp at hin; omega
      have hlt : i < ss.length := by omega
      obtain ⟨x, hx⟩ : ∃ x, ss[i]? = some x := ⟨ss[i], List.getElem?_eq_getElem hlt⟩
      obtain ⟨x1, x2, x3⟩ := x
      have hcl : ∀ j, j < 3 → wr.cell? ⟨b, o + i * 3 + j, none⟩ = ([Value.int .i64 x1, .int .i64 x2, .int .i64 x3][j]?) := by
        intro j hj
        have h1 : (sq3c ss)[i * 3 + j]? = [Value.int .i64 x1, .int .i64 x2, .int .i64 x3][j]? := rows_get (z := 3) (fun _ => rfl) hx hj
        obtain ⟨v, hv⟩ : ∃ v, [Value.int .i64 x1, .int .i64 x2, .int .i64 x3][j]? = some v := ⟨_, List.getElem?_eq_getElem (by simpa using hj)⟩
        rw [hv] at h1 ⊢
        have h2 := hcell _ _ h1
        rw [Nat.add_assoc]
        exact (hb.cell hbl).trans h2
      have c0 := hcl 0 (by omega); have c1 := hcl 1 (by omega); have c2 := hcl 2 (by omega)
      simp only [List.getElem?_cons_zero, List.getElem?_cons_succ, Nat.add_zero] at c0 c1 c2
      clear hcl hcell
      obtain ⟨w1, hw1⟩ : ∃ w1, w1 = wr.alloc (.cells #[.int .i64 x1, .int .i64 x2, .int .i64 x3] 155) := ⟨_, rfl⟩
      have hnw : w1.heap[wr.heap.size]? = some (.cells #[.int .i64 x1, .int .i64 x2, .int .i64 x3] 155) := by rw [hw1]; exact heap_alloc_new wr _
      have cW := Any.Builder_WriteString_k { laysRepeat with } repExtra W.heap.size W.heap.size (Lib.byteCells dn) (t.extract 0 (min (max x1 0) (t.size : Int)).toNat) w1 (by rw [hw1]; exact bld_alloc hB _) (by rw [Lib.byteCells_length, Lib.size_eq, Lib.extract_data]; simp; omega) (by rw [hw1, World.size_alloc]; exact Nat.le_succ_of_le hb.size)
      have hbw : Below W.heap.size W w1 := by rw [hw1]; exact hb.alloc hb.size _
      have hne : wr.heap.size ≠ W.heap.size := by
        intro h
        obtain ⟨g, hg⟩ : ∃ g : Obj, wr.heap[W.heap.size]? = some g := by
          rcases hB with h | h <;> obtain ⟨_, v, h2, _⟩ := h <;> exact ⟨_, h2⟩
        have := (Array.getElem?_eq_some_iff.1 hg).1
        omega
      have hk2 : some wr.heap.size ≠ some W.heap.size := fun e => hne (Option.some.inj e)
      have hk3 : ∀ c fz, Obj.cells #[.int .i64 x1, .int .i64 x2, .int .i64 x3] 155 ≠ .cells c (laysRepeat_ren.t 5) fz := by
        intro c fz h
        injection h with _ h1 _
        exact absurd h1 (by decide)
      rw [hw1] at cW hnw
      go_wp2_with (go_at_fn 99; go_fit cW; (rintro e W2 ⟨rfl, h2, b2, k2⟩; have hl2 : W2.heap[wr.heap.size]? = some (.cells #[.int .i64 x1, .int .i64 x2, .int .i64 x3] 155) := k2 _ _ hnw hk2 hk3; have d1 : W2.cell? ⟨wr.heap.size, 1, none⟩ = some (.int .i64 x2) := by simp [World.cell?, hl2]))
      have hA : (t.extract (min (max x1 0) (t.size : Int)).toNat t.size).size = t.size - (min (max x1 0) (t.size : Int)).toNat := by
        rw [Lib.size_eq, ext_drop t _ rfl, List.length_drop, ← Lib.size_eq]
        omega
      have hu : ((t.extract (min (max x1 0) (t.size : Int)).toNat t.size).extract (min (max x2 0) ((t.size - (min (max x1 0) (t.size : Int)).toNat : Nat) : Int)).toNat (t.size - (min (max x1 0) (t.size : Int)).toNat)).data.toList = (t.data.toList.drop x1.toNat).drop x2.toNat := by
        rw [ext_drop _ _ hA, ext_drop t _ rfl]
      rw [Lib.strCells_eq, ← Lib.byteCells_append, ext_take] at h2
      refine ⟨⟨i + 1, _, dn ++ t.data.toList.take x1.toNat, by omega, rfl, rfl, ?_, ?_, .inr h2, hbw.trans (by rw [hw1]; exact b2)⟩, by simp only [mN]; omega⟩
      · rw [hlit, hu, List.drop_eq_getElem_cons hlt, show ss[i] = (x1, x2, x3) from Option.some.inj ((List.getElem?_eq_getElem hlt).symm.trans hx)]
        simp only [litS, List.append_assoc]
      · rw [Lib.size_eq, hu]
        have := Lib.size_eq t
        simp only [List.length_append, List.length_take, List.length_drop]
        omega
def bkM : Value → Nat
  | .int _ x => (x + 1).toNat
  | _ => 0
theorem back_ok1 : BackOK Go.Proofs.Tryz.prog 255 := by
  refine ⟨by kernel_rfl, ?_⟩
  intro l c n J Jx W hn hsl hJ hround
  obtain ⟨a0, k0, hc0⟩ := hsl
  have mixed : Go.Proofs.Tryz.prog.follows .mixedOrders = true := by kernel_rfl
  have t95 := Go.Proofs.Tryz.underlying95; have a95 := Go.Proofs.Tryz.isAgg95; have z95 := Go.Proofs.Tryz.sizeOf95; have v95 := Go.Proofs.Tryz.zeroValue95
  have t3 := Go.Proofs.Tryz.underlying3; have a3 := Go.Proofs.Tryz.isAgg3; have z3 := Go.Proofs.Tryz.sizeOf3; have v3 := Go.Proofs.Tryz.zeroValue3
  have t5 := Go.Proofs.Tryz.underlying5; have a5 := Go.Proofs.Tryz.isAgg5; have z5 := Go.Proofs.Tryz.sizeOf5; have v5 := Go.Proofs.Tryz.zeroValue5
  have t4 := Go.Proofs.Tryz.underlying4; have a4 := Go.Proofs.Tryz.isAgg4; have z4 := Go.Proofs.Tryz.sizeOf4; have v4 := Go.Proofs.Tryz.zeroValue4
  have u95 := run_underlying t95; have u3 := run_underlying t3; have u5 := run_underlying t5; have u4 := run_underlying t4
  have hnt : Go.Proofs.Tryz.f255.ntmps = 19 := by kernel_rfl
  refine callsIn_of_wp Go.Proofs.Tryz.func255 rfl trivial ?_ rfl
  simp only [hnt, List.size_toArray, List.length_cons, List.length_nil, Nat.reduceAdd, Nat.reduceSub, Array.replicate_succ, Array.replicate_zero, List.push_toArray, List.append_toArray, List.nil_append, List.cons_append]
  gi_wp2
  gi_loopw [3] (fun s wx => ∃ i : Nat, i ≤ n ∧ ((i = 0 ∧ s = .int .i64 (-1)) ∨ ∃ j : Nat, i = j + 1 ∧ s = .int .i64 j) ∧ J i wx) (fun s wx => bkM s)
  case atStart =>
    refine ⟨n, Nat.le_refl _, ?_, hJ⟩
    cases n with
    | zero => exact .inl ⟨rfl, rfl⟩
    | succ m => refine .inr ⟨m, rfl, ?_⟩; congr 1; omega
  case round =>
    obtain ⟨i, hi, hs, hJi⟩ := hrel
    rcases hs with ⟨rfl, rfl⟩ | ⟨j, rfl, rfl⟩
    · gi_wp2
      go_end0
      exact ⟨⟨_, rfl⟩, .inl hJi⟩
    · obtain ⟨a1, n', k1, x, hc1, hin, hsp, hx, fn, tmps, assign, body, hy, hR⟩ := hround j _ (by omega) hJi
      obtain ⟨ab, ao, sp⟩ := a1
      simp only at hsp
      subst hsp
      gi_wp2
      refine hR.mono ?_
      rintro e W3 (⟨rfl, hJ3⟩ | ⟨rfl, hJx3⟩)
      · gi_wp2
        go_roundw
        case rel =>
          refine ⟨j, by omega, ?_, hJ3⟩
          cases j with
          | zero => exact .inl ⟨rfl, by congr 1⟩
          | succ m => refine .inr ⟨m, rfl, ?_⟩; congr 1; omega
        case measure => simp only [bkM]; omega
      · gi_wp2
        refine bodyPost_ret (results_none rfl _ _ _) rfl ?_
        exact ⟨⟨_, rfl⟩, .inr hJx3⟩

def sq3 : List Value → Option (List (Int × Int × Int))
  | [] => some []
  | .int .i64 a :: .int .i64 b :: .int .i64 c :: l => (sq3 l).map ((a, b, c) :: ·)
  | _ => none
theorem sq3_ok : ∀ (cs : List Value) {ss : List (Int × Int × Int)}, sq3 cs = some ss → cs = sq3c ss
  | [], ss, h => by simp [sq3] at h; subst h; rfl
  | .int .i64 a :: .int .i64 b :: .int .i64 c :: l, ss, h => by
    simp only [sq3, Option.map_eq_some_iff] at h
    obtain ⟨s2, h2, rfl⟩ := h
    rw [sq3_ok l h2]; rfl
theorem sq3c_len (ss : List (Int × Int × Int)) : (sq3c ss).length = ss.length * 3 := rows_len (z := 3) (fun _ => rfl) ss
def litP : List Value → Heap → Option (Value × Heap)
  | [.string text, .slice a n c], H => if text.size ≤ 1000000 ∧ n ≤ 1000000 then (kRow H 155 3 n a).bind fun cs => (sq3 cs).map fun ss => (.string ⟨(litS text.data.toList ss).toArray⟩, H) else none
  | _, _ => none
theorem lit_ok : PrimOK Go.Proofs.Tryz.prog 77 litP := by
  refine ⟨by kernel_rfl, ?_⟩
  intro B w0 args H v H' h ρ w cargs hrel hv
  unfold litP at h
  split at h
  · rename_i text a n c
    split at h
    · rename_i hc
      simp only [Option.bind_eq_some_iff, Option.map_eq_some_iff, Prod.mk.injEq] at h
      obtain ⟨cs, hcs, ss, hss, rfl, rfl⟩ := h
      obtain rfl := sq3_ok cs hss
      obtain ⟨y, hy, h1⟩ := hv.get (i := 0) rfl
      obtain ⟨z, hz, h2⟩ := hv.get (i := 1) rfl
      obtain ⟨hl, -⟩ := hv
      obtain ⟨y', z', rfl⟩ : ∃ y' z', cargs = [y', z'] := by
        match cargs, hl with
        | [a, b], _ => exact ⟨a, b, rfl⟩
      simp at hy hz
      subst hy; subst hz
      cases h1
      obtain ⟨hl1, a', c', rfl, l', hvl, hl2, ho, hcell⟩ := kRow_inv hrel h2 hcs
      have hnl : ss.length = n := by rw [sq3c_len] at hl1; omega
      have hgnd : ∀ (i : Nat) v, (sq3c ss)[i]? = some v → ∃ k, v = .int .i64 k := by
        intro i v hv
        have := List.mem_of_getElem? hv
        simp only [sq3c, List.mem_flatMap, List.mem_cons, List.not_mem_nil, or_false] at this
        obtain ⟨s, _, rfl | rfl | rfl⟩ := this <;> exact ⟨_, rfl⟩
      have hl' : ∀ (j : Nat) v, (sq3c ss)[j]? = some v → l'[j]? = some v := by
        intro j v hj
        obtain ⟨y, hy, hvy⟩ := hvl.get hj
        obtain ⟨k, rfl⟩ := hgnd j v hj
        cases hvy
        exact hy
      have hw := lit_w text hc.1 ss (by omega) a' c' w (by
        rcases hcell with ⟨_, h0⟩ | ⟨b', rfl, hcell⟩
        · exact .inl (List.eq_nil_of_length_eq_zero (by omega))
        · by_cases h0 : ss = []
          · exact .inl h0
          · have hpos : 0 < (sq3c ss).length := by
              rw [sq3c_len]
              have : 0 < ss.length := by cases ss with | nil => exact absurd rfl h0 | cons => simp
              omega
            have c0 := hcell 0 _ (hl' 0 _ (List.getElem?_eq_getElem hpos))
            obtain ⟨hsp, arr, tw, fr, hh, _⟩ := cell_heap c0
            obtain ⟨bb, oo, sp⟩ := b'
            cases sp with
            | some s => cases hsp
            | none =>
              refine .inr ⟨bb, oo, rfl, (Array.getElem?_eq_some_iff.1 hh).1, fun j v hj => ?_⟩
              have := hcell j v (hl' j v hj)
              rwa [Addr.add_lit] at this)
      rw [hnl] at hw
      refine hw.mono fun e w' ⟨he, hb⟩ => ⟨ρ, _, he, List.prefix_refl _, .string _, hrel.world ⟨hb.os, hb.tape, hb.output, hb.size, fun k hk => hb.block k (hrel.base k hk)⟩ hb.block⟩
    · cases h
  · cases h
def R0 : FuncId → Option (List Value → Heap → Option (Value × Heap)) := fun f => if f = 84 then some repP else if f = 77 then some litP else none
theorem R0_ok : ∀ f p, R0 f = some p → PrimOK Go.Proofs.Tryz.prog f p := fun f p h => by
  unfold R0 at h
  split at h
  · rename_i hf
    cases h; subst hf; exact rep_ok
  · split at h
    · rename_i hf
      cases h; subst hf; exact lit_ok
    · cases h
def Bk : FuncId → Bool := fun f => f == 255
theorem Bk_ok : ∀ f, Bk f = true → BackOK Go.Proofs.Tryz.prog f := fun f h => by
  have := eq_of_beq h
  subst this
  exact back_ok1
end Go.Proofs.YtjgpbhodbgjggaaGreat.K
