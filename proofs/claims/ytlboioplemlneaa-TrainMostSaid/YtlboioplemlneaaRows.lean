/-
  No cell of these rows narrows 'for every input' (looked for: loops, veiled, ifaces, maps, wideKeys, modest, calm, conditions, laid).
  DERIVED. THE GIVEN ROWS OF THIS SEAT. 10 by the template 'for every input the law returns true; each argument reads behind the call as it read before'; 0 by the template 'total and deterministic' (their statements: YtlboioplemlneaaTotals.lean).
  GIVEN WITH THE SEED: the statements are not yours to turn. If you find one false, say at which input.
  Laid BY PROGRAM, IN A SANDBOX (cutbox-rows.mjs): the forced cells as the released guide's own fill.sh prints them over the translation 6238ce7dbaf713de… (all of the seat's roots in one cut). By AI agents, Wed Nov 11 2026. No macro, syntax, notation, axiom, sorry.
-/
import Derived.Test.YtlboioplemlneaaChecked
import GoSem.Claim
import GoSem.ClaimJoined
import GoSem.ClaimMapViews
import Derived.JoinedTies
import Derived.KernelRfl
namespace Go.Proofs.Ytlboioplemlneaa
/- THE CELL 'sum', in the pinned program and in every row, IS THE sha256 OF THE DUMP (.gsa) THAT YtlboioplemlneaaProg.lean LOADS. Nothing in Lean hashes anything: it is a label: what it is worth is what the hold of that sum in a sandbox is worth. -/
noncomputable def Try.pinned : Pinned := { name := "ytlboioplemlneaa", sum := "6238ce7dbaf713dee1a97c4b16c2ccdb6af6142d29d9beea2dae7751a5a224a8", checked := Try.checked }
namespace Rows
def none {H : Type} : Left H := { results := [], args := [] }

/-- 'pemmicanlaw33.ScriptBack': WHATEVER THE INPUT: true; the input reads as it did. -/
def scriptBackSpec : ChangeSpec := { name := "scriptBack", fn := fun _ => fun
  | [d] => { results := [.lit (.bool true)], args := [d] }
  | _ => none }
def scriptBackRow : OpenClaim := { program := "ytlboioplemlneaa", sum := "6238ce7dbaf713dee1a97c4b16c2ccdb6af6142d29d9beea2dae7751a5a224a8", func := "pemmican/pemmicanlaw33.ScriptBack", spec := "scriptBack", apart := false }
def ScriptBackSaid : Prop := scriptBackRow.holds Try.pinned (OpenSpec.ofChange scriptBackSpec)

/-- ITS FALSE NEIGHBOUR: 'it returns false'. Refute it at one input. -/
def scriptBackWrong : ChangeSpec := { name := "scriptBack", fn := fun _ => fun
  | [d] => { results := [.lit (.bool false)], args := [d] }
  | _ => none }
def ScriptBackWrongFalsely : Prop := scriptBackRow.holds Try.pinned (OpenSpec.ofChange scriptBackWrong)

/-- 'pemmicanlaw33.ScriptAny': WHATEVER THE INPUT: true; the input reads as it did. -/
def scriptAnySpec : ChangeSpec := { name := "scriptAny", fn := fun _ => fun
  | [d] => { results := [.lit (.bool true)], args := [d] }
  | _ => none }
def scriptAnyRow : OpenClaim := { program := "ytlboioplemlneaa", sum := "6238ce7dbaf713dee1a97c4b16c2ccdb6af6142d29d9beea2dae7751a5a224a8", func := "pemmican/pemmicanlaw33.ScriptAny", spec := "scriptAny", apart := false }
def ScriptAnySaid : Prop := scriptAnyRow.holds Try.pinned (OpenSpec.ofChange scriptAnySpec)

/-- ITS FALSE NEIGHBOUR: 'it returns false'. Refute it at one input. -/
def scriptAnyWrong : ChangeSpec := { name := "scriptAny", fn := fun _ => fun
  | [d] => { results := [.lit (.bool false)], args := [d] }
  | _ => none }
def ScriptAnyWrongFalsely : Prop := scriptAnyRow.holds Try.pinned (OpenSpec.ofChange scriptAnyWrong)

/-- 'pemmicanlaw10.LitcodeAny': WHATEVER THE INPUT: true; the input reads as it did. -/
def litcodeAnySpec : ChangeSpec := { name := "litcodeAny", fn := fun _ => fun
  | [d1, d2, d3] => { results := [.lit (.bool true)], args := [d1, d2, d3] }
  | _ => none }
def litcodeAnyRow : OpenClaim := { program := "ytlboioplemlneaa", sum := "6238ce7dbaf713dee1a97c4b16c2ccdb6af6142d29d9beea2dae7751a5a224a8", func := "pemmican/pemmicanlaw10.LitcodeAny", spec := "litcodeAny", apart := false }
def LitcodeAnySaid : Prop := litcodeAnyRow.holds Try.pinned (OpenSpec.ofChange litcodeAnySpec)

/-- ITS FALSE NEIGHBOUR: 'it returns false'. Refute it at one input. -/
def litcodeAnyWrong : ChangeSpec := { name := "litcodeAny", fn := fun _ => fun
  | [d1, d2, d3] => { results := [.lit (.bool false)], args := [d1, d2, d3] }
  | _ => none }
def LitcodeAnyWrongFalsely : Prop := litcodeAnyRow.holds Try.pinned (OpenSpec.ofChange litcodeAnyWrong)

/-- 'pemmicanlaw10.LitcodeBack': WHATEVER THE INPUT: true; the input reads as it did. -/
def litcodeBackSpec : ChangeSpec := { name := "litcodeBack", fn := fun _ => fun
  | [d1, d2] => { results := [.lit (.bool true)], args := [d1, d2] }
  | _ => none }
def litcodeBackRow : OpenClaim := { program := "ytlboioplemlneaa", sum := "6238ce7dbaf713dee1a97c4b16c2ccdb6af6142d29d9beea2dae7751a5a224a8", func := "pemmican/pemmicanlaw10.LitcodeBack", spec := "litcodeBack", apart := false }
def LitcodeBackSaid : Prop := litcodeBackRow.holds Try.pinned (OpenSpec.ofChange litcodeBackSpec)

/-- ITS FALSE NEIGHBOUR: 'it returns false'. Refute it at one input. -/
def litcodeBackWrong : ChangeSpec := { name := "litcodeBack", fn := fun _ => fun
  | [d1, d2] => { results := [.lit (.bool false)], args := [d1, d2] }
  | _ => none }
def LitcodeBackWrongFalsely : Prop := litcodeBackRow.holds Try.pinned (OpenSpec.ofChange litcodeBackWrong)

/-- 'pemmicanlaw19.TrainPieces': WHATEVER THE INPUT: true; the input reads as it did. -/
def trainPiecesSpec : ChangeSpec := { name := "trainPieces", fn := fun _ => fun
  | [d1, d2] => { results := [.lit (.bool true)], args := [d1, d2] }
  | _ => none }
def trainPiecesRow : OpenClaim := { program := "ytlboioplemlneaa", sum := "6238ce7dbaf713dee1a97c4b16c2ccdb6af6142d29d9beea2dae7751a5a224a8", func := "pemmican/pemmicanlaw19.TrainPieces", spec := "trainPieces", inPlace := ["internal/abi.NoEscape", "internal/bytealg.MakeNoZero"], unfollowed := true, recurses := true, apart := false }
def TrainPiecesSaid : Prop := trainPiecesRow.holds Try.pinned (OpenSpec.ofChange trainPiecesSpec)

/-- ITS FALSE NEIGHBOUR: 'it returns false'. Refute it at one input. -/
def trainPiecesWrong : ChangeSpec := { name := "trainPieces", fn := fun _ => fun
  | [d1, d2] => { results := [.lit (.bool false)], args := [d1, d2] }
  | _ => none }
def TrainPiecesWrongFalsely : Prop := trainPiecesRow.holds Try.pinned (OpenSpec.ofChange trainPiecesWrong)

/-- 'pemmicanlaw19.TrainWorth': WHATEVER THE INPUT: true; the input reads as it did. -/
def trainWorthSpec : ChangeSpec := { name := "trainWorth", fn := fun _ => fun
  | [d1, d2] => { results := [.lit (.bool true)], args := [d1, d2] }
  | _ => none }
def trainWorthRow : OpenClaim := { program := "ytlboioplemlneaa", sum := "6238ce7dbaf713dee1a97c4b16c2ccdb6af6142d29d9beea2dae7751a5a224a8", func := "pemmican/pemmicanlaw19.TrainWorth", spec := "trainWorth", inPlace := ["internal/abi.NoEscape", "internal/bytealg.MakeNoZero"], unfollowed := true, recurses := true, apart := false }
def TrainWorthSaid : Prop := trainWorthRow.holds Try.pinned (OpenSpec.ofChange trainWorthSpec)

/-- ITS FALSE NEIGHBOUR: 'it returns false'. Refute it at one input. -/
def trainWorthWrong : ChangeSpec := { name := "trainWorth", fn := fun _ => fun
  | [d1, d2] => { results := [.lit (.bool false)], args := [d1, d2] }
  | _ => none }
def TrainWorthWrongFalsely : Prop := trainWorthRow.holds Try.pinned (OpenSpec.ofChange trainWorthWrong)

/-- 'pemmicanlaw19.TrainMost': WHATEVER THE INPUT: true; the input reads as it did. -/
def trainMostSpec : ChangeSpec := { name := "trainMost", fn := fun _ => fun
  | [d1, d2] => { results := [.lit (.bool true)], args := [d1, d2] }
  | _ => none }
def trainMostRow : OpenClaim := { program := "ytlboioplemlneaa", sum := "6238ce7dbaf713dee1a97c4b16c2ccdb6af6142d29d9beea2dae7751a5a224a8", func := "pemmican/pemmicanlaw19.TrainMost", spec := "trainMost", inPlace := ["internal/abi.NoEscape", "internal/bytealg.MakeNoZero"], unfollowed := true, recurses := true, apart := false }
def TrainMostSaid : Prop := trainMostRow.holds Try.pinned (OpenSpec.ofChange trainMostSpec)

/-- ITS FALSE NEIGHBOUR: 'it returns false'. Refute it at one input. -/
def trainMostWrong : ChangeSpec := { name := "trainMost", fn := fun _ => fun
  | [d1, d2] => { results := [.lit (.bool false)], args := [d1, d2] }
  | _ => none }
def TrainMostWrongFalsely : Prop := trainMostRow.holds Try.pinned (OpenSpec.ofChange trainMostWrong)

/-- 'pemmicanlaw09.HuffLengths': WHATEVER THE INPUT: true; the input reads as it did. -/
def huffLengthsSpec : ChangeSpec := { name := "huffLengths", fn := fun _ => fun
  | [d] => { results := [.lit (.bool true)], args := [d] }
  | _ => none }
def huffLengthsRow : OpenClaim := { program := "ytlboioplemlneaa", sum := "6238ce7dbaf713dee1a97c4b16c2ccdb6af6142d29d9beea2dae7751a5a224a8", func := "pemmican/pemmicanlaw09.HuffLengths", spec := "huffLengths", unfollowed := true, recurses := true, apart := false }
def HuffLengthsSaid : Prop := huffLengthsRow.holds Try.pinned (OpenSpec.ofChange huffLengthsSpec)

/-- ITS FALSE NEIGHBOUR: 'it returns false'. Refute it at one input. -/
def huffLengthsWrong : ChangeSpec := { name := "huffLengths", fn := fun _ => fun
  | [d] => { results := [.lit (.bool false)], args := [d] }
  | _ => none }
def HuffLengthsWrongFalsely : Prop := huffLengthsRow.holds Try.pinned (OpenSpec.ofChange huffLengthsWrong)

/-- 'pemmicanlaw10.LitcodeCosts': WHATEVER THE INPUT: true; the input reads as it did. -/
def litcodeCostsSpec : ChangeSpec := { name := "litcodeCosts", fn := fun _ => fun
  | [d] => { results := [.lit (.bool true)], args := [d] }
  | _ => none }
def litcodeCostsRow : OpenClaim := { program := "ytlboioplemlneaa", sum := "6238ce7dbaf713dee1a97c4b16c2ccdb6af6142d29d9beea2dae7751a5a224a8", func := "pemmican/pemmicanlaw10.LitcodeCosts", spec := "litcodeCosts", unfollowed := true, recurses := true, apart := false }
def LitcodeCostsSaid : Prop := litcodeCostsRow.holds Try.pinned (OpenSpec.ofChange litcodeCostsSpec)

/-- ITS FALSE NEIGHBOUR: 'it returns false'. Refute it at one input. -/
def litcodeCostsWrong : ChangeSpec := { name := "litcodeCosts", fn := fun _ => fun
  | [d] => { results := [.lit (.bool false)], args := [d] }
  | _ => none }
def LitcodeCostsWrongFalsely : Prop := litcodeCostsRow.holds Try.pinned (OpenSpec.ofChange litcodeCostsWrong)

/-- 'pemmicanlaw15.LitsFew': WHATEVER THE INPUT: true; the input reads as it did. -/
def litsFewSpec : ChangeSpec := { name := "litsFew", fn := fun _ => fun
  | [d1, d2] => { results := [.lit (.bool true)], args := [d1, d2] }
  | _ => none }
def litsFewRow : OpenClaim := { program := "ytlboioplemlneaa", sum := "6238ce7dbaf713dee1a97c4b16c2ccdb6af6142d29d9beea2dae7751a5a224a8", func := "pemmican/pemmicanlaw15.LitsFew", spec := "litsFew", inPlace := ["internal/abi.NoEscape", "internal/bytealg.MakeNoZero"], unfollowed := true, recurses := true, apart := false }
def LitsFewSaid : Prop := litsFewRow.holds Try.pinned (OpenSpec.ofChange litsFewSpec)

/-- ITS FALSE NEIGHBOUR: 'it returns false'. Refute it at one input. -/
def litsFewWrong : ChangeSpec := { name := "litsFew", fn := fun _ => fun
  | [d1, d2] => { results := [.lit (.bool false)], args := [d1, d2] }
  | _ => none }
def LitsFewWrongFalsely : Prop := litsFewRow.holds Try.pinned (OpenSpec.ofChange litsFewWrong)

/- THE SECOND FORM. 'bulk': how many values and letters a reading holds, each counted each time it is reached (what is shared counts as often as it is met; a slice's spare places count too). A statement '..UptoSaid' is the law's where the arguments, and the package variables that the reading takes, are together of bulk at most 1048576: NARROWER than '..Said'. Prove '..Said' where nothing that the law and all that it calls make is longer than what came in: it says more and counts as full. Else prove '..UptoSaid'. A law counts once. -/
mutual
def uptoBulk {H : Type} : DataW H → Nat
  | .lit (.string bytes) => bytes.length + 1
  | .lit _ => 1
  | .nil => 1
  | .ptr d => uptoBulk d + 1
  | .slice elems spare => uptoBulkAll elems + uptoBulkAll spare + 1
  | .agg parts => uptoBulkAll parts + 1
  | .iface _ d => uptoBulk d + 1
  | .map entries => uptoBulkEntries entries + 1
  | .held _ => 1
def uptoBulkAll {H : Type} : List (DataW H) → Nat
  | [] => 0
  | d :: r => uptoBulk d + uptoBulkAll r
def uptoBulkEntries {H : Type} : List (Lit × DataW H) → Nat
  | [] => 0
  | x :: r => uptoBulkEntry x + uptoBulkEntries r
def uptoBulkEntry {H : Type} : Lit × DataW H → Nat
  | (.string bytes, d) => bytes.length + uptoBulk d + 1
  | (_, d) => uptoBulk d + 1
 end
def uptoSmall : (H : Type) → List (DataW H) → Bool := fun _ ds => decide (uptoBulkAll ds ≤ 1048576)
def OpenSpec.upto (s : _root_.Go.ChangeSpec) : _root_.Go.OpenSpec := { _root_.Go.OpenSpec.ofChange s with cond := some uptoSmall }

/-- 'pemmicanlaw33.ScriptBack', WHERE WHAT IT READS IS OF BULK AT MOST 1048576: true; the input reads as it did. -/
def scriptBackUptoRow : OpenClaim := { program := "ytlboioplemlneaa", sum := "6238ce7dbaf713dee1a97c4b16c2ccdb6af6142d29d9beea2dae7751a5a224a8", func := "pemmican/pemmicanlaw33.ScriptBack", spec := "scriptBack", apart := false, narrowed := true }
def ScriptBackUptoSaid : Prop := scriptBackUptoRow.holds Try.pinned (OpenSpec.upto scriptBackSpec)

/-- 'pemmicanlaw33.ScriptAny', WHERE WHAT IT READS IS OF BULK AT MOST 1048576: true; the input reads as it did. -/
def scriptAnyUptoRow : OpenClaim := { program := "ytlboioplemlneaa", sum := "6238ce7dbaf713dee1a97c4b16c2ccdb6af6142d29d9beea2dae7751a5a224a8", func := "pemmican/pemmicanlaw33.ScriptAny", spec := "scriptAny", apart := false, narrowed := true }
def ScriptAnyUptoSaid : Prop := scriptAnyUptoRow.holds Try.pinned (OpenSpec.upto scriptAnySpec)

/-- 'pemmicanlaw10.LitcodeAny', WHERE WHAT IT READS IS OF BULK AT MOST 1048576: true; the input reads as it did. -/
def litcodeAnyUptoRow : OpenClaim := { program := "ytlboioplemlneaa", sum := "6238ce7dbaf713dee1a97c4b16c2ccdb6af6142d29d9beea2dae7751a5a224a8", func := "pemmican/pemmicanlaw10.LitcodeAny", spec := "litcodeAny", apart := false, narrowed := true }
def LitcodeAnyUptoSaid : Prop := litcodeAnyUptoRow.holds Try.pinned (OpenSpec.upto litcodeAnySpec)

/-- 'pemmicanlaw10.LitcodeBack', WHERE WHAT IT READS IS OF BULK AT MOST 1048576: true; the input reads as it did. -/
def litcodeBackUptoRow : OpenClaim := { program := "ytlboioplemlneaa", sum := "6238ce7dbaf713dee1a97c4b16c2ccdb6af6142d29d9beea2dae7751a5a224a8", func := "pemmican/pemmicanlaw10.LitcodeBack", spec := "litcodeBack", apart := false, narrowed := true }
def LitcodeBackUptoSaid : Prop := litcodeBackUptoRow.holds Try.pinned (OpenSpec.upto litcodeBackSpec)

/-- 'pemmicanlaw19.TrainPieces', WHERE WHAT IT READS IS OF BULK AT MOST 1048576: true; the input reads as it did. -/
def trainPiecesUptoRow : OpenClaim := { program := "ytlboioplemlneaa", sum := "6238ce7dbaf713dee1a97c4b16c2ccdb6af6142d29d9beea2dae7751a5a224a8", func := "pemmican/pemmicanlaw19.TrainPieces", spec := "trainPieces", inPlace := ["internal/abi.NoEscape", "internal/bytealg.MakeNoZero"], unfollowed := true, recurses := true, apart := false, narrowed := true }
def TrainPiecesUptoSaid : Prop := trainPiecesUptoRow.holds Try.pinned (OpenSpec.upto trainPiecesSpec)

/-- 'pemmicanlaw19.TrainWorth', WHERE WHAT IT READS IS OF BULK AT MOST 1048576: true; the input reads as it did. -/
def trainWorthUptoRow : OpenClaim := { program := "ytlboioplemlneaa", sum := "6238ce7dbaf713dee1a97c4b16c2ccdb6af6142d29d9beea2dae7751a5a224a8", func := "pemmican/pemmicanlaw19.TrainWorth", spec := "trainWorth", inPlace := ["internal/abi.NoEscape", "internal/bytealg.MakeNoZero"], unfollowed := true, recurses := true, apart := false, narrowed := true }
def TrainWorthUptoSaid : Prop := trainWorthUptoRow.holds Try.pinned (OpenSpec.upto trainWorthSpec)

/-- 'pemmicanlaw19.TrainMost', WHERE WHAT IT READS IS OF BULK AT MOST 1048576: true; the input reads as it did. -/
def trainMostUptoRow : OpenClaim := { program := "ytlboioplemlneaa", sum := "6238ce7dbaf713dee1a97c4b16c2ccdb6af6142d29d9beea2dae7751a5a224a8", func := "pemmican/pemmicanlaw19.TrainMost", spec := "trainMost", inPlace := ["internal/abi.NoEscape", "internal/bytealg.MakeNoZero"], unfollowed := true, recurses := true, apart := false, narrowed := true }
def TrainMostUptoSaid : Prop := trainMostUptoRow.holds Try.pinned (OpenSpec.upto trainMostSpec)

/-- 'pemmicanlaw09.HuffLengths', WHERE WHAT IT READS IS OF BULK AT MOST 1048576: true; the input reads as it did. -/
def huffLengthsUptoRow : OpenClaim := { program := "ytlboioplemlneaa", sum := "6238ce7dbaf713dee1a97c4b16c2ccdb6af6142d29d9beea2dae7751a5a224a8", func := "pemmican/pemmicanlaw09.HuffLengths", spec := "huffLengths", unfollowed := true, recurses := true, apart := false, narrowed := true }
def HuffLengthsUptoSaid : Prop := huffLengthsUptoRow.holds Try.pinned (OpenSpec.upto huffLengthsSpec)

/-- 'pemmicanlaw10.LitcodeCosts', WHERE WHAT IT READS IS OF BULK AT MOST 1048576: true; the input reads as it did. -/
def litcodeCostsUptoRow : OpenClaim := { program := "ytlboioplemlneaa", sum := "6238ce7dbaf713dee1a97c4b16c2ccdb6af6142d29d9beea2dae7751a5a224a8", func := "pemmican/pemmicanlaw10.LitcodeCosts", spec := "litcodeCosts", unfollowed := true, recurses := true, apart := false, narrowed := true }
def LitcodeCostsUptoSaid : Prop := litcodeCostsUptoRow.holds Try.pinned (OpenSpec.upto litcodeCostsSpec)

/-- 'pemmicanlaw15.LitsFew', WHERE WHAT IT READS IS OF BULK AT MOST 1048576: true; the input reads as it did. -/
def litsFewUptoRow : OpenClaim := { program := "ytlboioplemlneaa", sum := "6238ce7dbaf713dee1a97c4b16c2ccdb6af6142d29d9beea2dae7751a5a224a8", func := "pemmican/pemmicanlaw15.LitsFew", spec := "litsFew", inPlace := ["internal/abi.NoEscape", "internal/bytealg.MakeNoZero"], unfollowed := true, recurses := true, apart := false, narrowed := true }
def LitsFewUptoSaid : Prop := litsFewUptoRow.holds Try.pinned (OpenSpec.upto litsFewSpec)

end Rows
end Go.Proofs.Ytlboioplemlneaa
