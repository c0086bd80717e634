/-
  No cell of these rows narrows 'for every input' (looked for: loops, veiled, ifaces, maps, wideKeys, modest, calm, conditions, laid).
  DERIVED. THE GIVEN ROWS OF THIS SEAT. 16 by the template 'for every input the law returns true; each argument reads behind the call as it read before'; 0 by the template 'total and deterministic' (their statements: YtpcpelbbeofenaaTotals.lean).
  GIVEN WITH THE SEED: the statements are not yours to turn. If you find one false, say at which input.
  Laid BY PROGRAM, IN A SANDBOX (cutbox-rows.mjs): the forced cells as the released guide's own fill.sh prints them over the translation 2236714c3767f0db… (all of the seat's roots in one cut). By AI agents, Wed Nov 11 2026. No macro, syntax, notation, axiom, sorry.
-/
import Derived.Test.YtpcpelbbeofenaaChecked
import GoSem.Claim
import GoSem.ClaimJoined
import GoSem.ClaimMapViews
import Derived.JoinedTies
import Derived.KernelRfl
namespace Go.Proofs.Ytpcpelbbeofenaa
/- THE CELL 'sum', in the pinned program and in every row, IS THE sha256 OF THE DUMP (.gsa) THAT YtpcpelbbeofenaaProg.lean LOADS. Nothing in Lean hashes anything: it is a label: what it is worth is what the hold of that sum in a sandbox is worth. -/
noncomputable def Try.pinned : Pinned := { name := "ytpcpelbbeofenaa", sum := "2236714c3767f0db501f467c44096eff7cce9efddf175cf5fcdf02a17ad498bb", checked := Try.checked }
namespace Rows
def none {H : Type} : Left H := { results := [], args := [] }

/-- 'pemmicanlaw36.AuditFinds': WHATEVER THE INPUT: true; the input reads as it did. -/
def auditFindsSpec : ChangeSpec := { name := "auditFinds", fn := fun _ => fun
  | [d] => { results := [.lit (.bool true)], args := [d] }
  | _ => none }
def auditFindsRow : OpenClaim := { program := "ytpcpelbbeofenaa", sum := "2236714c3767f0db501f467c44096eff7cce9efddf175cf5fcdf02a17ad498bb", func := "pemmican/pemmicanlaw36.AuditFinds", spec := "auditFinds", plainKeys := false, apart := false }
def AuditFindsSaid : Prop := auditFindsRow.holds Try.pinned (OpenSpec.ofChange auditFindsSpec)

/-- ITS FALSE NEIGHBOUR: 'it returns false'. Refute it at one input. -/
def auditFindsWrong : ChangeSpec := { name := "auditFinds", fn := fun _ => fun
  | [d] => { results := [.lit (.bool false)], args := [d] }
  | _ => none }
def AuditFindsWrongFalsely : Prop := auditFindsRow.holds Try.pinned (OpenSpec.ofChange auditFindsWrong)

/-- 'pemmicanlaw33.ScriptBack': WHATEVER THE INPUT: true; the input reads as it did. -/
def scriptBackSpec : ChangeSpec := { name := "scriptBack", fn := fun _ => fun
  | [d] => { results := [.lit (.bool true)], args := [d] }
  | _ => none }
def scriptBackRow : OpenClaim := { program := "ytpcpelbbeofenaa", sum := "2236714c3767f0db501f467c44096eff7cce9efddf175cf5fcdf02a17ad498bb", func := "pemmican/pemmicanlaw33.ScriptBack", spec := "scriptBack", plainKeys := false, apart := false }
def ScriptBackSaid : Prop := scriptBackRow.holds Try.pinned (OpenSpec.ofChange scriptBackSpec)

/-- ITS FALSE NEIGHBOUR: 'it returns false'. Refute it at one input. -/
def scriptBackWrong : ChangeSpec := { name := "scriptBack", fn := fun _ => fun
  | [d] => { results := [.lit (.bool false)], args := [d] }
  | _ => none }
def ScriptBackWrongFalsely : Prop := scriptBackRow.holds Try.pinned (OpenSpec.ofChange scriptBackWrong)

/-- 'pemmicanlaw33.ScriptAny': WHATEVER THE INPUT: true; the input reads as it did. -/
def scriptAnySpec : ChangeSpec := { name := "scriptAny", fn := fun _ => fun
  | [d] => { results := [.lit (.bool true)], args := [d] }
  | _ => none }
def scriptAnyRow : OpenClaim := { program := "ytpcpelbbeofenaa", sum := "2236714c3767f0db501f467c44096eff7cce9efddf175cf5fcdf02a17ad498bb", func := "pemmican/pemmicanlaw33.ScriptAny", spec := "scriptAny", plainKeys := false, apart := false }
def ScriptAnySaid : Prop := scriptAnyRow.holds Try.pinned (OpenSpec.ofChange scriptAnySpec)

/-- ITS FALSE NEIGHBOUR: 'it returns false'. Refute it at one input. -/
def scriptAnyWrong : ChangeSpec := { name := "scriptAny", fn := fun _ => fun
  | [d] => { results := [.lit (.bool false)], args := [d] }
  | _ => none }
def ScriptAnyWrongFalsely : Prop := scriptAnyRow.holds Try.pinned (OpenSpec.ofChange scriptAnyWrong)

/-- 'pemmicanlaw10.LitcodeAny': WHATEVER THE INPUT: true; the input reads as it did. -/
def litcodeAnySpec : ChangeSpec := { name := "litcodeAny", fn := fun _ => fun
  | [d1, d2, d3] => { results := [.lit (.bool true)], args := [d1, d2, d3] }
  | _ => none }
def litcodeAnyRow : OpenClaim := { program := "ytpcpelbbeofenaa", sum := "2236714c3767f0db501f467c44096eff7cce9efddf175cf5fcdf02a17ad498bb", func := "pemmican/pemmicanlaw10.LitcodeAny", spec := "litcodeAny", plainKeys := false, apart := false }
def LitcodeAnySaid : Prop := litcodeAnyRow.holds Try.pinned (OpenSpec.ofChange litcodeAnySpec)

/-- ITS FALSE NEIGHBOUR: 'it returns false'. Refute it at one input. -/
def litcodeAnyWrong : ChangeSpec := { name := "litcodeAny", fn := fun _ => fun
  | [d1, d2, d3] => { results := [.lit (.bool false)], args := [d1, d2, d3] }
  | _ => none }
def LitcodeAnyWrongFalsely : Prop := litcodeAnyRow.holds Try.pinned (OpenSpec.ofChange litcodeAnyWrong)

/-- 'pemmicanlaw10.LitcodeBack': WHATEVER THE INPUT: true; the input reads as it did. -/
def litcodeBackSpec : ChangeSpec := { name := "litcodeBack", fn := fun _ => fun
  | [d1, d2] => { results := [.lit (.bool true)], args := [d1, d2] }
  | _ => none }
def litcodeBackRow : OpenClaim := { program := "ytpcpelbbeofenaa", sum := "2236714c3767f0db501f467c44096eff7cce9efddf175cf5fcdf02a17ad498bb", func := "pemmican/pemmicanlaw10.LitcodeBack", spec := "litcodeBack", plainKeys := false, apart := false }
def LitcodeBackSaid : Prop := litcodeBackRow.holds Try.pinned (OpenSpec.ofChange litcodeBackSpec)

/-- ITS FALSE NEIGHBOUR: 'it returns false'. Refute it at one input. -/
def litcodeBackWrong : ChangeSpec := { name := "litcodeBack", fn := fun _ => fun
  | [d1, d2] => { results := [.lit (.bool false)], args := [d1, d2] }
  | _ => none }
def LitcodeBackWrongFalsely : Prop := litcodeBackRow.holds Try.pinned (OpenSpec.ofChange litcodeBackWrong)

/-- 'pemmicanlaw10.LitcodeTables': WHATEVER THE INPUT: true; the input reads as it did. -/
def litcodeTablesSpec : ChangeSpec := { name := "litcodeTables", fn := fun _ => fun
  | [d1, d2] => { results := [.lit (.bool true)], args := [d1, d2] }
  | _ => none }
def litcodeTablesRow : OpenClaim := { program := "ytpcpelbbeofenaa", sum := "2236714c3767f0db501f467c44096eff7cce9efddf175cf5fcdf02a17ad498bb", func := "pemmican/pemmicanlaw10.LitcodeTables", spec := "litcodeTables", plainKeys := false, apart := false }
def LitcodeTablesSaid : Prop := litcodeTablesRow.holds Try.pinned (OpenSpec.ofChange litcodeTablesSpec)

/-- ITS FALSE NEIGHBOUR: 'it returns false'. Refute it at one input. -/
def litcodeTablesWrong : ChangeSpec := { name := "litcodeTables", fn := fun _ => fun
  | [d1, d2] => { results := [.lit (.bool false)], args := [d1, d2] }
  | _ => none }
def LitcodeTablesWrongFalsely : Prop := litcodeTablesRow.holds Try.pinned (OpenSpec.ofChange litcodeTablesWrong)

/-- 'pemmicanlaw29.PolicyTracks': WHATEVER THE INPUT: true; the input reads as it did. -/
def policyTracksSpec : ChangeSpec := { name := "policyTracks", fn := fun _ => fun
  | [d1, d2, d3] => { results := [.lit (.bool true)], args := [d1, d2, d3] }
  | _ => none }
def policyTracksRow : OpenClaim := { program := "ytpcpelbbeofenaa", sum := "2236714c3767f0db501f467c44096eff7cce9efddf175cf5fcdf02a17ad498bb", func := "pemmican/pemmicanlaw29.PolicyTracks", spec := "policyTracks", unfollowed := true, recurses := true, plainKeys := false, apart := false }
def PolicyTracksSaid : Prop := policyTracksRow.holds Try.pinned (OpenSpec.ofChange policyTracksSpec)

/-- ITS FALSE NEIGHBOUR: 'it returns false'. Refute it at one input. -/
def policyTracksWrong : ChangeSpec := { name := "policyTracks", fn := fun _ => fun
  | [d1, d2, d3] => { results := [.lit (.bool false)], args := [d1, d2, d3] }
  | _ => none }
def PolicyTracksWrongFalsely : Prop := policyTracksRow.holds Try.pinned (OpenSpec.ofChange policyTracksWrong)

/-- 'pemmicanlaw19.TrainPieces': WHATEVER THE INPUT: true; the input reads as it did. -/
def trainPiecesSpec : ChangeSpec := { name := "trainPieces", fn := fun _ => fun
  | [d1, d2] => { results := [.lit (.bool true)], args := [d1, d2] }
  | _ => none }
def trainPiecesRow : OpenClaim := { program := "ytpcpelbbeofenaa", sum := "2236714c3767f0db501f467c44096eff7cce9efddf175cf5fcdf02a17ad498bb", func := "pemmican/pemmicanlaw19.TrainPieces", spec := "trainPieces", inPlace := ["internal/abi.NoEscape", "internal/bytealg.MakeNoZero"], unfollowed := true, recurses := true, plainKeys := false, apart := false }
def TrainPiecesSaid : Prop := trainPiecesRow.holds Try.pinned (OpenSpec.ofChange trainPiecesSpec)

/-- ITS FALSE NEIGHBOUR: 'it returns false'. Refute it at one input. -/
def trainPiecesWrong : ChangeSpec := { name := "trainPieces", fn := fun _ => fun
  | [d1, d2] => { results := [.lit (.bool false)], args := [d1, d2] }
  | _ => none }
def TrainPiecesWrongFalsely : Prop := trainPiecesRow.holds Try.pinned (OpenSpec.ofChange trainPiecesWrong)

/-- 'pemmicanlaw19.TrainWorth': WHATEVER THE INPUT: true; the input reads as it did. -/
def trainWorthSpec : ChangeSpec := { name := "trainWorth", fn := fun _ => fun
  | [d1, d2] => { results := [.lit (.bool true)], args := [d1, d2] }
  | _ => none }
def trainWorthRow : OpenClaim := { program := "ytpcpelbbeofenaa", sum := "2236714c3767f0db501f467c44096eff7cce9efddf175cf5fcdf02a17ad498bb", func := "pemmican/pemmicanlaw19.TrainWorth", spec := "trainWorth", inPlace := ["internal/abi.NoEscape", "internal/bytealg.MakeNoZero"], unfollowed := true, recurses := true, plainKeys := false, apart := false }
def TrainWorthSaid : Prop := trainWorthRow.holds Try.pinned (OpenSpec.ofChange trainWorthSpec)

/-- ITS FALSE NEIGHBOUR: 'it returns false'. Refute it at one input. -/
def trainWorthWrong : ChangeSpec := { name := "trainWorth", fn := fun _ => fun
  | [d1, d2] => { results := [.lit (.bool false)], args := [d1, d2] }
  | _ => none }
def TrainWorthWrongFalsely : Prop := trainWorthRow.holds Try.pinned (OpenSpec.ofChange trainWorthWrong)

/-- 'pemmicanlaw19.TrainMost': WHATEVER THE INPUT: true; the input reads as it did. -/
def trainMostSpec : ChangeSpec := { name := "trainMost", fn := fun _ => fun
  | [d1, d2] => { results := [.lit (.bool true)], args := [d1, d2] }
  | _ => none }
def trainMostRow : OpenClaim := { program := "ytpcpelbbeofenaa", sum := "2236714c3767f0db501f467c44096eff7cce9efddf175cf5fcdf02a17ad498bb", func := "pemmican/pemmicanlaw19.TrainMost", spec := "trainMost", inPlace := ["internal/abi.NoEscape", "internal/bytealg.MakeNoZero"], unfollowed := true, recurses := true, plainKeys := false, apart := false }
def TrainMostSaid : Prop := trainMostRow.holds Try.pinned (OpenSpec.ofChange trainMostSpec)

/-- ITS FALSE NEIGHBOUR: 'it returns false'. Refute it at one input. -/
def trainMostWrong : ChangeSpec := { name := "trainMost", fn := fun _ => fun
  | [d1, d2] => { results := [.lit (.bool false)], args := [d1, d2] }
  | _ => none }
def TrainMostWrongFalsely : Prop := trainMostRow.holds Try.pinned (OpenSpec.ofChange trainMostWrong)

/-- 'pemmicanlaw09.HuffWhole': WHATEVER THE INPUT: true; the input reads as it did. -/
def huffWholeSpec : ChangeSpec := { name := "huffWhole", fn := fun _ => fun
  | [d] => { results := [.lit (.bool true)], args := [d] }
  | _ => none }
def huffWholeRow : OpenClaim := { program := "ytpcpelbbeofenaa", sum := "2236714c3767f0db501f467c44096eff7cce9efddf175cf5fcdf02a17ad498bb", func := "pemmican/pemmicanlaw09.HuffWhole", spec := "huffWhole", unfollowed := true, recurses := true, plainKeys := false, apart := false }
def HuffWholeSaid : Prop := huffWholeRow.holds Try.pinned (OpenSpec.ofChange huffWholeSpec)

/-- ITS FALSE NEIGHBOUR: 'it returns false'. Refute it at one input. -/
def huffWholeWrong : ChangeSpec := { name := "huffWhole", fn := fun _ => fun
  | [d] => { results := [.lit (.bool false)], args := [d] }
  | _ => none }
def HuffWholeWrongFalsely : Prop := huffWholeRow.holds Try.pinned (OpenSpec.ofChange huffWholeWrong)

/-- 'pemmicanlaw09.HuffPrefix': WHATEVER THE INPUT: true; the input reads as it did. -/
def huffPrefixSpec : ChangeSpec := { name := "huffPrefix", fn := fun _ => fun
  | [d] => { results := [.lit (.bool true)], args := [d] }
  | _ => none }
def huffPrefixRow : OpenClaim := { program := "ytpcpelbbeofenaa", sum := "2236714c3767f0db501f467c44096eff7cce9efddf175cf5fcdf02a17ad498bb", func := "pemmican/pemmicanlaw09.HuffPrefix", spec := "huffPrefix", unfollowed := true, recurses := true, plainKeys := false, apart := false }
def HuffPrefixSaid : Prop := huffPrefixRow.holds Try.pinned (OpenSpec.ofChange huffPrefixSpec)

/-- ITS FALSE NEIGHBOUR: 'it returns false'. Refute it at one input. -/
def huffPrefixWrong : ChangeSpec := { name := "huffPrefix", fn := fun _ => fun
  | [d] => { results := [.lit (.bool false)], args := [d] }
  | _ => none }
def HuffPrefixWrongFalsely : Prop := huffPrefixRow.holds Try.pinned (OpenSpec.ofChange huffPrefixWrong)

/-- 'pemmicanlaw09.HuffCosts': WHATEVER THE INPUT: true; the input reads as it did. -/
def huffCostsSpec : ChangeSpec := { name := "huffCosts", fn := fun _ => fun
  | [d1, d2] => { results := [.lit (.bool true)], args := [d1, d2] }
  | _ => none }
def huffCostsRow : OpenClaim := { program := "ytpcpelbbeofenaa", sum := "2236714c3767f0db501f467c44096eff7cce9efddf175cf5fcdf02a17ad498bb", func := "pemmican/pemmicanlaw09.HuffCosts", spec := "huffCosts", unfollowed := true, recurses := true, plainKeys := false, apart := false }
def HuffCostsSaid : Prop := huffCostsRow.holds Try.pinned (OpenSpec.ofChange huffCostsSpec)

/-- ITS FALSE NEIGHBOUR: 'it returns false'. Refute it at one input. -/
def huffCostsWrong : ChangeSpec := { name := "huffCosts", fn := fun _ => fun
  | [d1, d2] => { results := [.lit (.bool false)], args := [d1, d2] }
  | _ => none }
def HuffCostsWrongFalsely : Prop := huffCostsRow.holds Try.pinned (OpenSpec.ofChange huffCostsWrong)

/-- 'pemmicanlaw09.HuffLengths': WHATEVER THE INPUT: true; the input reads as it did. -/
def huffLengthsSpec : ChangeSpec := { name := "huffLengths", fn := fun _ => fun
  | [d] => { results := [.lit (.bool true)], args := [d] }
  | _ => none }
def huffLengthsRow : OpenClaim := { program := "ytpcpelbbeofenaa", sum := "2236714c3767f0db501f467c44096eff7cce9efddf175cf5fcdf02a17ad498bb", func := "pemmican/pemmicanlaw09.HuffLengths", spec := "huffLengths", unfollowed := true, recurses := true, plainKeys := false, apart := false }
def HuffLengthsSaid : Prop := huffLengthsRow.holds Try.pinned (OpenSpec.ofChange huffLengthsSpec)

/-- ITS FALSE NEIGHBOUR: 'it returns false'. Refute it at one input. -/
def huffLengthsWrong : ChangeSpec := { name := "huffLengths", fn := fun _ => fun
  | [d] => { results := [.lit (.bool false)], args := [d] }
  | _ => none }
def HuffLengthsWrongFalsely : Prop := huffLengthsRow.holds Try.pinned (OpenSpec.ofChange huffLengthsWrong)

/-- 'pemmicanlaw10.LitcodeCosts': WHATEVER THE INPUT: true; the input reads as it did. -/
def litcodeCostsSpec : ChangeSpec := { name := "litcodeCosts", fn := fun _ => fun
  | [d] => { results := [.lit (.bool true)], args := [d] }
  | _ => none }
def litcodeCostsRow : OpenClaim := { program := "ytpcpelbbeofenaa", sum := "2236714c3767f0db501f467c44096eff7cce9efddf175cf5fcdf02a17ad498bb", func := "pemmican/pemmicanlaw10.LitcodeCosts", spec := "litcodeCosts", unfollowed := true, recurses := true, plainKeys := false, apart := false }
def LitcodeCostsSaid : Prop := litcodeCostsRow.holds Try.pinned (OpenSpec.ofChange litcodeCostsSpec)

/-- ITS FALSE NEIGHBOUR: 'it returns false'. Refute it at one input. -/
def litcodeCostsWrong : ChangeSpec := { name := "litcodeCosts", fn := fun _ => fun
  | [d] => { results := [.lit (.bool false)], args := [d] }
  | _ => none }
def LitcodeCostsWrongFalsely : Prop := litcodeCostsRow.holds Try.pinned (OpenSpec.ofChange litcodeCostsWrong)

/-- 'pemmicanlaw15.LitsFew': WHATEVER THE INPUT: true; the input reads as it did. -/
def litsFewSpec : ChangeSpec := { name := "litsFew", fn := fun _ => fun
  | [d1, d2] => { results := [.lit (.bool true)], args := [d1, d2] }
  | _ => none }
def litsFewRow : OpenClaim := { program := "ytpcpelbbeofenaa", sum := "2236714c3767f0db501f467c44096eff7cce9efddf175cf5fcdf02a17ad498bb", func := "pemmican/pemmicanlaw15.LitsFew", spec := "litsFew", inPlace := ["internal/abi.NoEscape", "internal/bytealg.MakeNoZero"], unfollowed := true, recurses := true, plainKeys := false, apart := false }
def LitsFewSaid : Prop := litsFewRow.holds Try.pinned (OpenSpec.ofChange litsFewSpec)

/-- ITS FALSE NEIGHBOUR: 'it returns false'. Refute it at one input. -/
def litsFewWrong : ChangeSpec := { name := "litsFew", fn := fun _ => fun
  | [d1, d2] => { results := [.lit (.bool false)], args := [d1, d2] }
  | _ => none }
def LitsFewWrongFalsely : Prop := litsFewRow.holds Try.pinned (OpenSpec.ofChange litsFewWrong)

/- THE SECOND FORM. 'bulk': how many values and letters a reading holds, each counted each time it is reached (what is shared counts as often as it is met; a slice's spare places count too). A statement '..UptoSaid' is the law's where the arguments, and the package variables that the reading takes, are together of bulk at most 1048576: NARROWER than '..Said'. Prove '..Said' where nothing that the law and all that it calls make is longer than what came in: it says more and counts as full. Else prove '..UptoSaid'. A law counts once. -/
mutual
def uptoBulk {H : Type} : DataW H → Nat
  | .lit (.string bytes) => bytes.length + 1
  | .lit _ => 1
  | .nil => 1
  | .ptr d => uptoBulk d + 1
  | .slice elems spare => uptoBulkAll elems + uptoBulkAll spare + 1
  | .agg parts => uptoBulkAll parts + 1
  | .iface _ d => uptoBulk d + 1
  | .map entries => uptoBulkEntries entries + 1
  | .held _ => 1
def uptoBulkAll {H : Type} : List (DataW H) → Nat
  | [] => 0
  | d :: r => uptoBulk d + uptoBulkAll r
def uptoBulkEntries {H : Type} : List (Lit × DataW H) → Nat
  | [] => 0
  | x :: r => uptoBulkEntry x + uptoBulkEntries r
def uptoBulkEntry {H : Type} : Lit × DataW H → Nat
  | (.string bytes, d) => bytes.length + uptoBulk d + 1
  | (_, d) => uptoBulk d + 1
 end
def uptoSmall : (H : Type) → List (DataW H) → Bool := fun _ ds => decide (uptoBulkAll ds ≤ 1048576)
def OpenSpec.upto (s : _root_.Go.ChangeSpec) : _root_.Go.OpenSpec := { _root_.Go.OpenSpec.ofChange s with cond := some uptoSmall }

/-- 'pemmicanlaw36.AuditFinds', WHERE WHAT IT READS IS OF BULK AT MOST 1048576: true; the input reads as it did. -/
def auditFindsUptoRow : OpenClaim := { program := "ytpcpelbbeofenaa", sum := "2236714c3767f0db501f467c44096eff7cce9efddf175cf5fcdf02a17ad498bb", func := "pemmican/pemmicanlaw36.AuditFinds", spec := "auditFinds", plainKeys := false, apart := false, narrowed := true }
def AuditFindsUptoSaid : Prop := auditFindsUptoRow.holds Try.pinned (OpenSpec.upto auditFindsSpec)

/-- 'pemmicanlaw33.ScriptBack', WHERE WHAT IT READS IS OF BULK AT MOST 1048576: true; the input reads as it did. -/
def scriptBackUptoRow : OpenClaim := { program := "ytpcpelbbeofenaa", sum := "2236714c3767f0db501f467c44096eff7cce9efddf175cf5fcdf02a17ad498bb", func := "pemmican/pemmicanlaw33.ScriptBack", spec := "scriptBack", plainKeys := false, apart := false, narrowed := true }
def ScriptBackUptoSaid : Prop := scriptBackUptoRow.holds Try.pinned (OpenSpec.upto scriptBackSpec)

/-- 'pemmicanlaw33.ScriptAny', WHERE WHAT IT READS IS OF BULK AT MOST 1048576: true; the input reads as it did. -/
def scriptAnyUptoRow : OpenClaim := { program := "ytpcpelbbeofenaa", sum := "2236714c3767f0db501f467c44096eff7cce9efddf175cf5fcdf02a17ad498bb", func := "pemmican/pemmicanlaw33.ScriptAny", spec := "scriptAny", plainKeys := false, apart := false, narrowed := true }
def ScriptAnyUptoSaid : Prop := scriptAnyUptoRow.holds Try.pinned (OpenSpec.upto scriptAnySpec)

/-- 'pemmicanlaw10.LitcodeAny', WHERE WHAT IT READS IS OF BULK AT MOST 1048576: true; the input reads as it did. -/
def litcodeAnyUptoRow : OpenClaim := { program := "ytpcpelbbeofenaa", sum := "2236714c3767f0db501f467c44096eff7cce9efddf175cf5fcdf02a17ad498bb", func := "pemmican/pemmicanlaw10.LitcodeAny", spec := "litcodeAny", plainKeys := false, apart := false, narrowed := true }
def LitcodeAnyUptoSaid : Prop := litcodeAnyUptoRow.holds Try.pinned (OpenSpec.upto litcodeAnySpec)

/-- 'pemmicanlaw10.LitcodeBack', WHERE WHAT IT READS IS OF BULK AT MOST 1048576: true; the input reads as it did. -/
def litcodeBackUptoRow : OpenClaim := { program := "ytpcpelbbeofenaa", sum := "2236714c3767f0db501f467c44096eff7cce9efddf175cf5fcdf02a17ad498bb", func := "pemmican/pemmicanlaw10.LitcodeBack", spec := "litcodeBack", plainKeys := false, apart := false, narrowed := true }
def LitcodeBackUptoSaid : Prop := litcodeBackUptoRow.holds Try.pinned (OpenSpec.upto litcodeBackSpec)

/-- 'pemmicanlaw10.LitcodeTables', WHERE WHAT IT READS IS OF BULK AT MOST 1048576: true; the input reads as it did. -/
def litcodeTablesUptoRow : OpenClaim := { program := "ytpcpelbbeofenaa", sum := "2236714c3767f0db501f467c44096eff7cce9efddf175cf5fcdf02a17ad498bb", func := "pemmican/pemmicanlaw10.LitcodeTables", spec := "litcodeTables", plainKeys := false, apart := false, narrowed := true }
def LitcodeTablesUptoSaid : Prop := litcodeTablesUptoRow.holds Try.pinned (OpenSpec.upto litcodeTablesSpec)

/-- 'pemmicanlaw29.PolicyTracks', WHERE WHAT IT READS IS OF BULK AT MOST 1048576: true; the input reads as it did. -/
def policyTracksUptoRow : OpenClaim := { program := "ytpcpelbbeofenaa", sum := "2236714c3767f0db501f467c44096eff7cce9efddf175cf5fcdf02a17ad498bb", func := "pemmican/pemmicanlaw29.PolicyTracks", spec := "policyTracks", unfollowed := true, recurses := true, plainKeys := false, apart := false, narrowed := true }
def PolicyTracksUptoSaid : Prop := policyTracksUptoRow.holds Try.pinned (OpenSpec.upto policyTracksSpec)

/-- 'pemmicanlaw19.TrainPieces', WHERE WHAT IT READS IS OF BULK AT MOST 1048576: true; the input reads as it did. -/
def trainPiecesUptoRow : OpenClaim := { program := "ytpcpelbbeofenaa", sum := "2236714c3767f0db501f467c44096eff7cce9efddf175cf5fcdf02a17ad498bb", func := "pemmican/pemmicanlaw19.TrainPieces", spec := "trainPieces", inPlace := ["internal/abi.NoEscape", "internal/bytealg.MakeNoZero"], unfollowed := true, recurses := true, plainKeys := false, apart := false, narrowed := true }
def TrainPiecesUptoSaid : Prop := trainPiecesUptoRow.holds Try.pinned (OpenSpec.upto trainPiecesSpec)

/-- 'pemmicanlaw19.TrainWorth', WHERE WHAT IT READS IS OF BULK AT MOST 1048576: true; the input reads as it did. -/
def trainWorthUptoRow : OpenClaim := { program := "ytpcpelbbeofenaa", sum := "2236714c3767f0db501f467c44096eff7cce9efddf175cf5fcdf02a17ad498bb", func := "pemmican/pemmicanlaw19.TrainWorth", spec := "trainWorth", inPlace := ["internal/abi.NoEscape", "internal/bytealg.MakeNoZero"], unfollowed := true, recurses := true, plainKeys := false, apart := false, narrowed := true }
def TrainWorthUptoSaid : Prop := trainWorthUptoRow.holds Try.pinned (OpenSpec.upto trainWorthSpec)

/-- 'pemmicanlaw19.TrainMost', WHERE WHAT IT READS IS OF BULK AT MOST 1048576: true; the input reads as it did. -/
def trainMostUptoRow : OpenClaim := { program := "ytpcpelbbeofenaa", sum := "2236714c3767f0db501f467c44096eff7cce9efddf175cf5fcdf02a17ad498bb", func := "pemmican/pemmicanlaw19.TrainMost", spec := "trainMost", inPlace := ["internal/abi.NoEscape", "internal/bytealg.MakeNoZero"], unfollowed := true, recurses := true, plainKeys := false, apart := false, narrowed := true }
def TrainMostUptoSaid : Prop := trainMostUptoRow.holds Try.pinned (OpenSpec.upto trainMostSpec)

/-- 'pemmicanlaw09.HuffWhole', WHERE WHAT IT READS IS OF BULK AT MOST 1048576: true; the input reads as it did. -/
def huffWholeUptoRow : OpenClaim := { program := "ytpcpelbbeofenaa", sum := "2236714c3767f0db501f467c44096eff7cce9efddf175cf5fcdf02a17ad498bb", func := "pemmican/pemmicanlaw09.HuffWhole", spec := "huffWhole", unfollowed := true, recurses := true, plainKeys := false, apart := false, narrowed := true }
def HuffWholeUptoSaid : Prop := huffWholeUptoRow.holds Try.pinned (OpenSpec.upto huffWholeSpec)

/-- 'pemmicanlaw09.HuffPrefix', WHERE WHAT IT READS IS OF BULK AT MOST 1048576: true; the input reads as it did. -/
def huffPrefixUptoRow : OpenClaim := { program := "ytpcpelbbeofenaa", sum := "2236714c3767f0db501f467c44096eff7cce9efddf175cf5fcdf02a17ad498bb", func := "pemmican/pemmicanlaw09.HuffPrefix", spec := "huffPrefix", unfollowed := true, recurses := true, plainKeys := false, apart := false, narrowed := true }
def HuffPrefixUptoSaid : Prop := huffPrefixUptoRow.holds Try.pinned (OpenSpec.upto huffPrefixSpec)

/-- 'pemmicanlaw09.HuffCosts', WHERE WHAT IT READS IS OF BULK AT MOST 1048576: true; the input reads as it did. -/
def huffCostsUptoRow : OpenClaim := { program := "ytpcpelbbeofenaa", sum := "2236714c3767f0db501f467c44096eff7cce9efddf175cf5fcdf02a17ad498bb", func := "pemmican/pemmicanlaw09.HuffCosts", spec := "huffCosts", unfollowed := true, recurses := true, plainKeys := false, apart := false, narrowed := true }
def HuffCostsUptoSaid : Prop := huffCostsUptoRow.holds Try.pinned (OpenSpec.upto huffCostsSpec)

/-- 'pemmicanlaw09.HuffLengths', WHERE WHAT IT READS IS OF BULK AT MOST 1048576: true; the input reads as it did. -/
def huffLengthsUptoRow : OpenClaim := { program := "ytpcpelbbeofenaa", sum := "2236714c3767f0db501f467c44096eff7cce9efddf175cf5fcdf02a17ad498bb", func := "pemmican/pemmicanlaw09.HuffLengths", spec := "huffLengths", unfollowed := true, recurses := true, plainKeys := false, apart := false, narrowed := true }
def HuffLengthsUptoSaid : Prop := huffLengthsUptoRow.holds Try.pinned (OpenSpec.upto huffLengthsSpec)

/-- 'pemmicanlaw10.LitcodeCosts', WHERE WHAT IT READS IS OF BULK AT MOST 1048576: true; the input reads as it did. -/
def litcodeCostsUptoRow : OpenClaim := { program := "ytpcpelbbeofenaa", sum := "2236714c3767f0db501f467c44096eff7cce9efddf175cf5fcdf02a17ad498bb", func := "pemmican/pemmicanlaw10.LitcodeCosts", spec := "litcodeCosts", unfollowed := true, recurses := true, plainKeys := false, apart := false, narrowed := true }
def LitcodeCostsUptoSaid : Prop := litcodeCostsUptoRow.holds Try.pinned (OpenSpec.upto litcodeCostsSpec)

/-- 'pemmicanlaw15.LitsFew', WHERE WHAT IT READS IS OF BULK AT MOST 1048576: true; the input reads as it did. -/
def litsFewUptoRow : OpenClaim := { program := "ytpcpelbbeofenaa", sum := "2236714c3767f0db501f467c44096eff7cce9efddf175cf5fcdf02a17ad498bb", func := "pemmican/pemmicanlaw15.LitsFew", spec := "litsFew", inPlace := ["internal/abi.NoEscape", "internal/bytealg.MakeNoZero"], unfollowed := true, recurses := true, plainKeys := false, apart := false, narrowed := true }
def LitsFewUptoSaid : Prop := litsFewUptoRow.holds Try.pinned (OpenSpec.upto litsFewSpec)

end Rows
end Go.Proofs.Ytpcpelbbeofenaa
