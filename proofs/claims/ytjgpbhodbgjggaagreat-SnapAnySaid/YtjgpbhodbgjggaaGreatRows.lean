/-
  No cell of these rows narrows 'for every input' (looked for: loops, veiled, ifaces, maps, wideKeys, modest, calm, conditions, laid).
  DERIVED. THE GIVEN ROWS OF THIS SEAT. 11 by the template 'for every input the law returns true; each argument reads behind the call as it read before'; 0 by the template 'total and deterministic' (their statements: YtjgpbhodbgjggaaGreatTotals.lean).
  GIVEN WITH THE SEED: the statements are not yours to turn. If you find one false, say at which input.
  Laid BY PROGRAM, IN A SANDBOX (cutbox-rows.mjs): the forced cells as the released guide's own fill.sh prints them over the translation d7133b2dc596de0b… (all of the seat's roots in one cut). By AI agents, Wed Nov 11 2026. No macro, syntax, notation, axiom, sorry.
-/
import Derived.Test.YtjgpbhodbgjggaaGreatChecked
import GoSem.Claim
import GoSem.ClaimJoined
import GoSem.ClaimMapViews
import Derived.JoinedTies
import Derived.KernelRfl
namespace Go.Proofs.YtjgpbhodbgjggaaGreat
/- THE CELL 'sum', in the pinned program and in every row, IS THE sha256 OF THE DUMP (.gsa) THAT YtjgpbhodbgjggaaGreatProg.lean LOADS. Nothing in Lean hashes anything: it is a label: what it is worth is what the hold of that sum in a sandbox is worth. -/
noncomputable def Tryz.pinned : Pinned := { name := "ytjgpbhodbgjggaagreat", sum := "d7133b2dc596de0b259d8d995316806530fdd718163418d1eb86382837d04116", checked := Tryz.checked }
namespace Rows
def none {H : Type} : Left H := { results := [], args := [] }

/-- 'pemmicanlaw17.BlockBack': WHATEVER THE INPUT: true; the input reads as it did. -/
def blockBackSpec : ChangeSpec := { name := "blockBack", fn := fun _ => fun
  | [d1, d2, d3] => { results := [.lit (.bool true)], args := [d1, d2, d3] }
  | _ => none }
def blockBackRow : OpenClaim := { program := "ytjgpbhodbgjggaagreat", sum := "d7133b2dc596de0b259d8d995316806530fdd718163418d1eb86382837d04116", func := "pemmican/pemmicanlaw17.BlockBack", spec := "blockBack", inPlace := ["internal/abi.NoEscape", "internal/bytealg.MakeNoZero"], unfollowed := true, recurses := true, apart := false }
def BlockBackSaid : Prop := blockBackRow.holds Tryz.pinned (OpenSpec.ofChange blockBackSpec)

/-- ITS FALSE NEIGHBOUR: 'it returns false'. Refute it at one input. -/
def blockBackWrong : ChangeSpec := { name := "blockBack", fn := fun _ => fun
  | [d1, d2, d3] => { results := [.lit (.bool false)], args := [d1, d2, d3] }
  | _ => none }
def BlockBackWrongFalsely : Prop := blockBackRow.holds Tryz.pinned (OpenSpec.ofChange blockBackWrong)

/-- 'pemmicanlaw17.BlockAny': WHATEVER THE INPUT: true; the input reads as it did. -/
def blockAnySpec : ChangeSpec := { name := "blockAny", fn := fun _ => fun
  | [d1, d2, d3] => { results := [.lit (.bool true)], args := [d1, d2, d3] }
  | _ => none }
def blockAnyRow : OpenClaim := { program := "ytjgpbhodbgjggaagreat", sum := "d7133b2dc596de0b259d8d995316806530fdd718163418d1eb86382837d04116", func := "pemmican/pemmicanlaw17.BlockAny", spec := "blockAny", inPlace := ["internal/abi.NoEscape", "internal/bytealg.MakeNoZero"], unfollowed := true, recurses := true, apart := false }
def BlockAnySaid : Prop := blockAnyRow.holds Tryz.pinned (OpenSpec.ofChange blockAnySpec)

/-- ITS FALSE NEIGHBOUR: 'it returns false'. Refute it at one input. -/
def blockAnyWrong : ChangeSpec := { name := "blockAny", fn := fun _ => fun
  | [d1, d2, d3] => { results := [.lit (.bool false)], args := [d1, d2, d3] }
  | _ => none }
def BlockAnyWrongFalsely : Prop := blockAnyRow.holds Tryz.pinned (OpenSpec.ofChange blockAnyWrong)

/-- 'pemmicanlaw17.BlockOthers': WHATEVER THE INPUT: true; the input reads as it did. -/
def blockOthersSpec : ChangeSpec := { name := "blockOthers", fn := fun _ => fun
  | [d1, d2, d3] => { results := [.lit (.bool true)], args := [d1, d2, d3] }
  | _ => none }
def blockOthersRow : OpenClaim := { program := "ytjgpbhodbgjggaagreat", sum := "d7133b2dc596de0b259d8d995316806530fdd718163418d1eb86382837d04116", func := "pemmican/pemmicanlaw17.BlockOthers", spec := "blockOthers", inPlace := ["internal/abi.NoEscape", "internal/bytealg.MakeNoZero"], unfollowed := true, recurses := true, apart := false }
def BlockOthersSaid : Prop := blockOthersRow.holds Tryz.pinned (OpenSpec.ofChange blockOthersSpec)

/-- ITS FALSE NEIGHBOUR: 'it returns false'. Refute it at one input. -/
def blockOthersWrong : ChangeSpec := { name := "blockOthers", fn := fun _ => fun
  | [d1, d2, d3] => { results := [.lit (.bool false)], args := [d1, d2, d3] }
  | _ => none }
def BlockOthersWrongFalsely : Prop := blockOthersRow.holds Tryz.pinned (OpenSpec.ofChange blockOthersWrong)

/-- 'pemmicanlaw17.BlockLimit': WHATEVER THE INPUT: true; the input reads as it did. -/
def blockLimitSpec : ChangeSpec := { name := "blockLimit", fn := fun _ => fun
  | [d1, d2, d3] => { results := [.lit (.bool true)], args := [d1, d2, d3] }
  | _ => none }
def blockLimitRow : OpenClaim := { program := "ytjgpbhodbgjggaagreat", sum := "d7133b2dc596de0b259d8d995316806530fdd718163418d1eb86382837d04116", func := "pemmican/pemmicanlaw17.BlockLimit", spec := "blockLimit", inPlace := ["internal/abi.NoEscape", "internal/bytealg.MakeNoZero"], unfollowed := true, recurses := true, apart := false }
def BlockLimitSaid : Prop := blockLimitRow.holds Tryz.pinned (OpenSpec.ofChange blockLimitSpec)

/-- ITS FALSE NEIGHBOUR: 'it returns false'. Refute it at one input. -/
def blockLimitWrong : ChangeSpec := { name := "blockLimit", fn := fun _ => fun
  | [d1, d2, d3] => { results := [.lit (.bool false)], args := [d1, d2, d3] }
  | _ => none }
def BlockLimitWrongFalsely : Prop := blockLimitRow.holds Tryz.pinned (OpenSpec.ofChange blockLimitWrong)

/-- 'pemmicanlaw27.SnapAny': WHATEVER THE INPUT: true; the input reads as it did. -/
def snapAnySpec : ChangeSpec := { name := "snapAny", fn := fun _ => fun
  | [d] => { results := [.lit (.bool true)], args := [d] }
  | _ => none }
def snapAnyRow : OpenClaim := { program := "ytjgpbhodbgjggaagreat", sum := "d7133b2dc596de0b259d8d995316806530fdd718163418d1eb86382837d04116", func := "pemmican/pemmicanlaw27.SnapAny", spec := "snapAny", inPlace := ["internal/abi.NoEscape", "internal/bytealg.MakeNoZero"], unfollowed := true, recurses := true, apart := false }
def SnapAnySaid : Prop := snapAnyRow.holds Tryz.pinned (OpenSpec.ofChange snapAnySpec)

/-- ITS FALSE NEIGHBOUR: 'it returns false'. Refute it at one input. -/
def snapAnyWrong : ChangeSpec := { name := "snapAny", fn := fun _ => fun
  | [d] => { results := [.lit (.bool false)], args := [d] }
  | _ => none }
def SnapAnyWrongFalsely : Prop := snapAnyRow.holds Tryz.pinned (OpenSpec.ofChange snapAnyWrong)

/-- 'pemmicanlaw27.SnapJoins': WHATEVER THE INPUT: true; the input reads as it did. -/
def snapJoinsSpec : ChangeSpec := { name := "snapJoins", fn := fun _ => fun
  | [d1, d2, d3] => { results := [.lit (.bool true)], args := [d1, d2, d3] }
  | _ => none }
def snapJoinsRow : OpenClaim := { program := "ytjgpbhodbgjggaagreat", sum := "d7133b2dc596de0b259d8d995316806530fdd718163418d1eb86382837d04116", func := "pemmican/pemmicanlaw27.SnapJoins", spec := "snapJoins", inPlace := ["internal/abi.NoEscape", "internal/bytealg.MakeNoZero"], unfollowed := true, recurses := true, apart := false }
def SnapJoinsSaid : Prop := snapJoinsRow.holds Tryz.pinned (OpenSpec.ofChange snapJoinsSpec)

/-- ITS FALSE NEIGHBOUR: 'it returns false'. Refute it at one input. -/
def snapJoinsWrong : ChangeSpec := { name := "snapJoins", fn := fun _ => fun
  | [d1, d2, d3] => { results := [.lit (.bool false)], args := [d1, d2, d3] }
  | _ => none }
def SnapJoinsWrongFalsely : Prop := snapJoinsRow.holds Tryz.pinned (OpenSpec.ofChange snapJoinsWrong)

/-- 'pemmicanlaw27.SnapBack': WHATEVER THE INPUT: true; the input reads as it did. -/
def snapBackSpec : ChangeSpec := { name := "snapBack", fn := fun _ => fun
  | [d1, d2] => { results := [.lit (.bool true)], args := [d1, d2] }
  | _ => none }
def snapBackRow : OpenClaim := { program := "ytjgpbhodbgjggaagreat", sum := "d7133b2dc596de0b259d8d995316806530fdd718163418d1eb86382837d04116", func := "pemmican/pemmicanlaw27.SnapBack", spec := "snapBack", inPlace := ["internal/abi.NoEscape", "internal/bytealg.MakeNoZero"], unfollowed := true, recurses := true, apart := false }
def SnapBackSaid : Prop := snapBackRow.holds Tryz.pinned (OpenSpec.ofChange snapBackSpec)

/-- ITS FALSE NEIGHBOUR: 'it returns false'. Refute it at one input. -/
def snapBackWrong : ChangeSpec := { name := "snapBack", fn := fun _ => fun
  | [d1, d2] => { results := [.lit (.bool false)], args := [d1, d2] }
  | _ => none }
def SnapBackWrongFalsely : Prop := snapBackRow.holds Tryz.pinned (OpenSpec.ofChange snapBackWrong)

/-- 'pemmicanlaw19.TrainHelps': WHATEVER THE INPUT: true; the input reads as it did. -/
def trainHelpsSpec : ChangeSpec := { name := "trainHelps", fn := fun _ => fun
  | [d1, d2, d3] => { results := [.lit (.bool true)], args := [d1, d2, d3] }
  | _ => none }
def trainHelpsRow : OpenClaim := { program := "ytjgpbhodbgjggaagreat", sum := "d7133b2dc596de0b259d8d995316806530fdd718163418d1eb86382837d04116", func := "pemmican/pemmicanlaw19.TrainHelps", spec := "trainHelps", inPlace := ["internal/abi.NoEscape", "internal/bytealg.MakeNoZero"], unfollowed := true, recurses := true, apart := false }
def TrainHelpsSaid : Prop := trainHelpsRow.holds Tryz.pinned (OpenSpec.ofChange trainHelpsSpec)

/-- ITS FALSE NEIGHBOUR: 'it returns false'. Refute it at one input. -/
def trainHelpsWrong : ChangeSpec := { name := "trainHelps", fn := fun _ => fun
  | [d1, d2, d3] => { results := [.lit (.bool false)], args := [d1, d2, d3] }
  | _ => none }
def TrainHelpsWrongFalsely : Prop := trainHelpsRow.holds Tryz.pinned (OpenSpec.ofChange trainHelpsWrong)

/-- 'pemmicanlaw40.BatchBack': WHATEVER THE INPUT: true; the input reads as it did. -/
def batchBackSpec : ChangeSpec := { name := "batchBack", fn := fun _ => fun
  | [d1, d2, d3] => { results := [.lit (.bool true)], args := [d1, d2, d3] }
  | _ => none }
def batchBackRow : OpenClaim := { program := "ytjgpbhodbgjggaagreat", sum := "d7133b2dc596de0b259d8d995316806530fdd718163418d1eb86382837d04116", func := "pemmican/pemmicanlaw40.BatchBack", spec := "batchBack", inPlace := ["internal/abi.NoEscape", "internal/bytealg.MakeNoZero"], unfollowed := true, recurses := true, apart := false }
def BatchBackSaid : Prop := batchBackRow.holds Tryz.pinned (OpenSpec.ofChange batchBackSpec)

/-- ITS FALSE NEIGHBOUR: 'it returns false'. Refute it at one input. -/
def batchBackWrong : ChangeSpec := { name := "batchBack", fn := fun _ => fun
  | [d1, d2, d3] => { results := [.lit (.bool false)], args := [d1, d2, d3] }
  | _ => none }
def BatchBackWrongFalsely : Prop := batchBackRow.holds Tryz.pinned (OpenSpec.ofChange batchBackWrong)

/-- 'pemmicanlaw40.BatchAny': WHATEVER THE INPUT: true; the input reads as it did. -/
def batchAnySpec : ChangeSpec := { name := "batchAny", fn := fun _ => fun
  | [d1, d2] => { results := [.lit (.bool true)], args := [d1, d2] }
  | _ => none }
def batchAnyRow : OpenClaim := { program := "ytjgpbhodbgjggaagreat", sum := "d7133b2dc596de0b259d8d995316806530fdd718163418d1eb86382837d04116", func := "pemmican/pemmicanlaw40.BatchAny", spec := "batchAny", inPlace := ["internal/abi.NoEscape", "internal/bytealg.MakeNoZero"], unfollowed := true, recurses := true, apart := false }
def BatchAnySaid : Prop := batchAnyRow.holds Tryz.pinned (OpenSpec.ofChange batchAnySpec)

/-- ITS FALSE NEIGHBOUR: 'it returns false'. Refute it at one input. -/
def batchAnyWrong : ChangeSpec := { name := "batchAny", fn := fun _ => fun
  | [d1, d2] => { results := [.lit (.bool false)], args := [d1, d2] }
  | _ => none }
def BatchAnyWrongFalsely : Prop := batchAnyRow.holds Tryz.pinned (OpenSpec.ofChange batchAnyWrong)

/-- 'pemmicanlaw40.BatchSplits': WHATEVER THE INPUT: true; the input reads as it did. -/
def batchSplitsSpec : ChangeSpec := { name := "batchSplits", fn := fun _ => fun
  | [d1, d2] => { results := [.lit (.bool true)], args := [d1, d2] }
  | _ => none }
def batchSplitsRow : OpenClaim := { program := "ytjgpbhodbgjggaagreat", sum := "d7133b2dc596de0b259d8d995316806530fdd718163418d1eb86382837d04116", func := "pemmican/pemmicanlaw40.BatchSplits", spec := "batchSplits", inPlace := ["internal/abi.NoEscape", "internal/bytealg.MakeNoZero"], unfollowed := true, recurses := true, apart := false }
def BatchSplitsSaid : Prop := batchSplitsRow.holds Tryz.pinned (OpenSpec.ofChange batchSplitsSpec)

/-- ITS FALSE NEIGHBOUR: 'it returns false'. Refute it at one input. -/
def batchSplitsWrong : ChangeSpec := { name := "batchSplits", fn := fun _ => fun
  | [d1, d2] => { results := [.lit (.bool false)], args := [d1, d2] }
  | _ => none }
def BatchSplitsWrongFalsely : Prop := batchSplitsRow.holds Tryz.pinned (OpenSpec.ofChange batchSplitsWrong)

/- THE SECOND FORM. 'bulk': how many values and letters a reading holds, each counted each time it is reached (what is shared counts as often as it is met; a slice's spare places count too). A statement '..UptoSaid' is the law's where the arguments, and the package variables that the reading takes, are together of bulk at most 1048576: NARROWER than '..Said'. Prove '..Said' where nothing that the law and all that it calls make is longer than what came in: it says more and counts as full. Else prove '..UptoSaid'. A law counts once. -/
mutual
def uptoBulk {H : Type} : DataW H → Nat
  | .lit (.string bytes) => bytes.length + 1
  | .lit _ => 1
  | .nil => 1
  | .ptr d => uptoBulk d + 1
  | .slice elems spare => uptoBulkAll elems + uptoBulkAll spare + 1
  | .agg parts => uptoBulkAll parts + 1
  | .iface _ d => uptoBulk d + 1
  | .map entries => uptoBulkEntries entries + 1
  | .held _ => 1
def uptoBulkAll {H : Type} : List (DataW H) → Nat
  | [] => 0
  | d :: r => uptoBulk d + uptoBulkAll r
def uptoBulkEntries {H : Type} : List (Lit × DataW H) → Nat
  | [] => 0
  | x :: r => uptoBulkEntry x + uptoBulkEntries r
def uptoBulkEntry {H : Type} : Lit × DataW H → Nat
  | (.string bytes, d) => bytes.length + uptoBulk d + 1
  | (_, d) => uptoBulk d + 1
 end
def uptoSmall : (H : Type) → List (DataW H) → Bool := fun _ ds => decide (uptoBulkAll ds ≤ 1048576)
def OpenSpec.upto (s : _root_.Go.ChangeSpec) : _root_.Go.OpenSpec := { _root_.Go.OpenSpec.ofChange s with cond := some uptoSmall }

/-- 'pemmicanlaw17.BlockBack', WHERE WHAT IT READS IS OF BULK AT MOST 1048576: true; the input reads as it did. -/
def blockBackUptoRow : OpenClaim := { program := "ytjgpbhodbgjggaagreat", sum := "d7133b2dc596de0b259d8d995316806530fdd718163418d1eb86382837d04116", func := "pemmican/pemmicanlaw17.BlockBack", spec := "blockBack", inPlace := ["internal/abi.NoEscape", "internal/bytealg.MakeNoZero"], unfollowed := true, recurses := true, apart := false, narrowed := true }
def BlockBackUptoSaid : Prop := blockBackUptoRow.holds Tryz.pinned (OpenSpec.upto blockBackSpec)

/-- 'pemmicanlaw17.BlockAny', WHERE WHAT IT READS IS OF BULK AT MOST 1048576: true; the input reads as it did. -/
def blockAnyUptoRow : OpenClaim := { program := "ytjgpbhodbgjggaagreat", sum := "d7133b2dc596de0b259d8d995316806530fdd718163418d1eb86382837d04116", func := "pemmican/pemmicanlaw17.BlockAny", spec := "blockAny", inPlace := ["internal/abi.NoEscape", "internal/bytealg.MakeNoZero"], unfollowed := true, recurses := true, apart := false, narrowed := true }
def BlockAnyUptoSaid : Prop := blockAnyUptoRow.holds Tryz.pinned (OpenSpec.upto blockAnySpec)

/-- 'pemmicanlaw17.BlockOthers', WHERE WHAT IT READS IS OF BULK AT MOST 1048576: true; the input reads as it did. -/
def blockOthersUptoRow : OpenClaim := { program := "ytjgpbhodbgjggaagreat", sum := "d7133b2dc596de0b259d8d995316806530fdd718163418d1eb86382837d04116", func := "pemmican/pemmicanlaw17.BlockOthers", spec := "blockOthers", inPlace := ["internal/abi.NoEscape", "internal/bytealg.MakeNoZero"], unfollowed := true, recurses := true, apart := false, narrowed := true }
def BlockOthersUptoSaid : Prop := blockOthersUptoRow.holds Tryz.pinned (OpenSpec.upto blockOthersSpec)

/-- 'pemmicanlaw17.BlockLimit', WHERE WHAT IT READS IS OF BULK AT MOST 1048576: true; the input reads as it did. -/
def blockLimitUptoRow : OpenClaim := { program := "ytjgpbhodbgjggaagreat", sum := "d7133b2dc596de0b259d8d995316806530fdd718163418d1eb86382837d04116", func := "pemmican/pemmicanlaw17.BlockLimit", spec := "blockLimit", inPlace := ["internal/abi.NoEscape", "internal/bytealg.MakeNoZero"], unfollowed := true, recurses := true, apart := false, narrowed := true }
def BlockLimitUptoSaid : Prop := blockLimitUptoRow.holds Tryz.pinned (OpenSpec.upto blockLimitSpec)

/-- 'pemmicanlaw27.SnapAny', WHERE WHAT IT READS IS OF BULK AT MOST 1048576: true; the input reads as it did. -/
def snapAnyUptoRow : OpenClaim := { program := "ytjgpbhodbgjggaagreat", sum := "d7133b2dc596de0b259d8d995316806530fdd718163418d1eb86382837d04116", func := "pemmican/pemmicanlaw27.SnapAny", spec := "snapAny", inPlace := ["internal/abi.NoEscape", "internal/bytealg.MakeNoZero"], unfollowed := true, recurses := true, apart := false, narrowed := true }
def SnapAnyUptoSaid : Prop := snapAnyUptoRow.holds Tryz.pinned (OpenSpec.upto snapAnySpec)

/-- 'pemmicanlaw27.SnapJoins', WHERE WHAT IT READS IS OF BULK AT MOST 1048576: true; the input reads as it did. -/
def snapJoinsUptoRow : OpenClaim := { program := "ytjgpbhodbgjggaagreat", sum := "d7133b2dc596de0b259d8d995316806530fdd718163418d1eb86382837d04116", func := "pemmican/pemmicanlaw27.SnapJoins", spec := "snapJoins", inPlace := ["internal/abi.NoEscape", "internal/bytealg.MakeNoZero"], unfollowed := true, recurses := true, apart := false, narrowed := true }
def SnapJoinsUptoSaid : Prop := snapJoinsUptoRow.holds Tryz.pinned (OpenSpec.upto snapJoinsSpec)

/-- 'pemmicanlaw27.SnapBack', WHERE WHAT IT READS IS OF BULK AT MOST 1048576: true; the input reads as it did. -/
def snapBackUptoRow : OpenClaim := { program := "ytjgpbhodbgjggaagreat", sum := "d7133b2dc596de0b259d8d995316806530fdd718163418d1eb86382837d04116", func := "pemmican/pemmicanlaw27.SnapBack", spec := "snapBack", inPlace := ["internal/abi.NoEscape", "internal/bytealg.MakeNoZero"], unfollowed := true, recurses := true, apart := false, narrowed := true }
def SnapBackUptoSaid : Prop := snapBackUptoRow.holds Tryz.pinned (OpenSpec.upto snapBackSpec)

/-- 'pemmicanlaw19.TrainHelps', WHERE WHAT IT READS IS OF BULK AT MOST 1048576: true; the input reads as it did. -/
def trainHelpsUptoRow : OpenClaim := { program := "ytjgpbhodbgjggaagreat", sum := "d7133b2dc596de0b259d8d995316806530fdd718163418d1eb86382837d04116", func := "pemmican/pemmicanlaw19.TrainHelps", spec := "trainHelps", inPlace := ["internal/abi.NoEscape", "internal/bytealg.MakeNoZero"], unfollowed := true, recurses := true, apart := false, narrowed := true }
def TrainHelpsUptoSaid : Prop := trainHelpsUptoRow.holds Tryz.pinned (OpenSpec.upto trainHelpsSpec)

/-- 'pemmicanlaw40.BatchBack', WHERE WHAT IT READS IS OF BULK AT MOST 1048576: true; the input reads as it did. -/
def batchBackUptoRow : OpenClaim := { program := "ytjgpbhodbgjggaagreat", sum := "d7133b2dc596de0b259d8d995316806530fdd718163418d1eb86382837d04116", func := "pemmican/pemmicanlaw40.BatchBack", spec := "batchBack", inPlace := ["internal/abi.NoEscape", "internal/bytealg.MakeNoZero"], unfollowed := true, recurses := true, apart := false, narrowed := true }
def BatchBackUptoSaid : Prop := batchBackUptoRow.holds Tryz.pinned (OpenSpec.upto batchBackSpec)

/-- 'pemmicanlaw40.BatchAny', WHERE WHAT IT READS IS OF BULK AT MOST 1048576: true; the input reads as it did. -/
def batchAnyUptoRow : OpenClaim := { program := "ytjgpbhodbgjggaagreat", sum := "d7133b2dc596de0b259d8d995316806530fdd718163418d1eb86382837d04116", func := "pemmican/pemmicanlaw40.BatchAny", spec := "batchAny", inPlace := ["internal/abi.NoEscape", "internal/bytealg.MakeNoZero"], unfollowed := true, recurses := true, apart := false, narrowed := true }
def BatchAnyUptoSaid : Prop := batchAnyUptoRow.holds Tryz.pinned (OpenSpec.upto batchAnySpec)

/-- 'pemmicanlaw40.BatchSplits', WHERE WHAT IT READS IS OF BULK AT MOST 1048576: true; the input reads as it did. -/
def batchSplitsUptoRow : OpenClaim := { program := "ytjgpbhodbgjggaagreat", sum := "d7133b2dc596de0b259d8d995316806530fdd718163418d1eb86382837d04116", func := "pemmican/pemmicanlaw40.BatchSplits", spec := "batchSplits", inPlace := ["internal/abi.NoEscape", "internal/bytealg.MakeNoZero"], unfollowed := true, recurses := true, apart := false, narrowed := true }
def BatchSplitsUptoSaid : Prop := batchSplitsUptoRow.holds Tryz.pinned (OpenSpec.upto batchSplitsSpec)

end Rows
end Go.Proofs.YtjgpbhodbgjggaaGreat
