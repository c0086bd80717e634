/-
  No cell of these rows narrows 'for every input' (looked for: loops, veiled, ifaces, maps, wideKeys, modest, calm, conditions, laid).
  DERIVED. THE GIVEN ROWS OF THIS SEAT. 9 by the template 'for every input the law returns true; each argument reads behind the call as it read before'; 0 by the template 'total and deterministic' (their statements: YtccjanieihlpcaaTotals.lean).
  GIVEN WITH THE SEED: the statements are not yours to turn. If you find one false, say at which input.
  Laid BY PROGRAM, IN A SANDBOX (cutbox-rows.mjs): the forced cells as the released guide's own fill.sh prints them over the translation 25257429b80b5152… (all of the seat's roots in one cut). By AI agents, Wed Nov 11 2026. No macro, syntax, notation, axiom, sorry.
-/
import Derived.Test.YtccjanieihlpcaaChecked
import GoSem.Claim
import GoSem.ClaimJoined
import GoSem.ClaimMapViews
import Derived.JoinedTies
import Derived.KernelRfl
namespace Go.Proofs.Ytccjanieihlpcaa
/- THE CELL 'sum', in the pinned program and in every row, IS THE sha256 OF THE DUMP (.gsa) THAT YtccjanieihlpcaaProg.lean LOADS. Nothing in Lean hashes anything: it is a label: what it is worth is what the hold of that sum in a sandbox is worth. -/
noncomputable def Try.pinned : Pinned := { name := "ytccjanieihlpcaa", sum := "25257429b80b5152972c1169e1fdcec6701d8158c507b9df678963e54b3357ad", checked := Try.checked }
namespace Rows
def none {H : Type} : Left H := { results := [], args := [] }

/-- 'pemmicanlaw36.AuditFinds': WHATEVER THE INPUT: true; the input reads as it did. -/
def auditFindsSpec : ChangeSpec := { name := "auditFinds", fn := fun _ => fun
  | [d] => { results := [.lit (.bool true)], args := [d] }
  | _ => none }
def auditFindsRow : OpenClaim := { program := "ytccjanieihlpcaa", sum := "25257429b80b5152972c1169e1fdcec6701d8158c507b9df678963e54b3357ad", func := "pemmican/pemmicanlaw36.AuditFinds", spec := "auditFinds", plainKeys := false, apart := false }
def AuditFindsSaid : Prop := auditFindsRow.holds Try.pinned (OpenSpec.ofChange auditFindsSpec)

/-- ITS FALSE NEIGHBOUR: 'it returns false'. Refute it at one input. -/
def auditFindsWrong : ChangeSpec := { name := "auditFinds", fn := fun _ => fun
  | [d] => { results := [.lit (.bool false)], args := [d] }
  | _ => none }
def AuditFindsWrongFalsely : Prop := auditFindsRow.holds Try.pinned (OpenSpec.ofChange auditFindsWrong)

/-- 'pemmicanlaw33.ScriptBack': WHATEVER THE INPUT: true; the input reads as it did. -/
def scriptBackSpec : ChangeSpec := { name := "scriptBack", fn := fun _ => fun
  | [d] => { results := [.lit (.bool true)], args := [d] }
  | _ => none }
def scriptBackRow : OpenClaim := { program := "ytccjanieihlpcaa", sum := "25257429b80b5152972c1169e1fdcec6701d8158c507b9df678963e54b3357ad", func := "pemmican/pemmicanlaw33.ScriptBack", spec := "scriptBack", plainKeys := false, apart := false }
def ScriptBackSaid : Prop := scriptBackRow.holds Try.pinned (OpenSpec.ofChange scriptBackSpec)

/-- ITS FALSE NEIGHBOUR: 'it returns false'. Refute it at one input. -/
def scriptBackWrong : ChangeSpec := { name := "scriptBack", fn := fun _ => fun
  | [d] => { results := [.lit (.bool false)], args := [d] }
  | _ => none }
def ScriptBackWrongFalsely : Prop := scriptBackRow.holds Try.pinned (OpenSpec.ofChange scriptBackWrong)

/-- 'pemmicanlaw33.ScriptAny': WHATEVER THE INPUT: true; the input reads as it did. -/
def scriptAnySpec : ChangeSpec := { name := "scriptAny", fn := fun _ => fun
  | [d] => { results := [.lit (.bool true)], args := [d] }
  | _ => none }
def scriptAnyRow : OpenClaim := { program := "ytccjanieihlpcaa", sum := "25257429b80b5152972c1169e1fdcec6701d8158c507b9df678963e54b3357ad", func := "pemmican/pemmicanlaw33.ScriptAny", spec := "scriptAny", plainKeys := false, apart := false }
def ScriptAnySaid : Prop := scriptAnyRow.holds Try.pinned (OpenSpec.ofChange scriptAnySpec)

/-- ITS FALSE NEIGHBOUR: 'it returns false'. Refute it at one input. -/
def scriptAnyWrong : ChangeSpec := { name := "scriptAny", fn := fun _ => fun
  | [d] => { results := [.lit (.bool false)], args := [d] }
  | _ => none }
def ScriptAnyWrongFalsely : Prop := scriptAnyRow.holds Try.pinned (OpenSpec.ofChange scriptAnyWrong)

/-- 'pemmicanlaw29.PolicyTracks': WHATEVER THE INPUT: true; the input reads as it did. -/
def policyTracksSpec : ChangeSpec := { name := "policyTracks", fn := fun _ => fun
  | [d1, d2, d3] => { results := [.lit (.bool true)], args := [d1, d2, d3] }
  | _ => none }
def policyTracksRow : OpenClaim := { program := "ytccjanieihlpcaa", sum := "25257429b80b5152972c1169e1fdcec6701d8158c507b9df678963e54b3357ad", func := "pemmican/pemmicanlaw29.PolicyTracks", spec := "policyTracks", unfollowed := true, recurses := true, plainKeys := false, apart := false }
def PolicyTracksSaid : Prop := policyTracksRow.holds Try.pinned (OpenSpec.ofChange policyTracksSpec)

/-- ITS FALSE NEIGHBOUR: 'it returns false'. Refute it at one input. -/
def policyTracksWrong : ChangeSpec := { name := "policyTracks", fn := fun _ => fun
  | [d1, d2, d3] => { results := [.lit (.bool false)], args := [d1, d2, d3] }
  | _ => none }
def PolicyTracksWrongFalsely : Prop := policyTracksRow.holds Try.pinned (OpenSpec.ofChange policyTracksWrong)

/-- 'pemmicanlaw29.PolicyBases': WHATEVER THE INPUT: true; the input reads as it did. -/
def policyBasesSpec : ChangeSpec := { name := "policyBases", fn := fun _ => fun
  | [d1, d2, d3] => { results := [.lit (.bool true)], args := [d1, d2, d3] }
  | _ => none }
def policyBasesRow : OpenClaim := { program := "ytccjanieihlpcaa", sum := "25257429b80b5152972c1169e1fdcec6701d8158c507b9df678963e54b3357ad", func := "pemmican/pemmicanlaw29.PolicyBases", spec := "policyBases", unfollowed := true, recurses := true, plainKeys := false, apart := false }
def PolicyBasesSaid : Prop := policyBasesRow.holds Try.pinned (OpenSpec.ofChange policyBasesSpec)

/-- ITS FALSE NEIGHBOUR: 'it returns false'. Refute it at one input. -/
def policyBasesWrong : ChangeSpec := { name := "policyBases", fn := fun _ => fun
  | [d1, d2, d3] => { results := [.lit (.bool false)], args := [d1, d2, d3] }
  | _ => none }
def PolicyBasesWrongFalsely : Prop := policyBasesRow.holds Try.pinned (OpenSpec.ofChange policyBasesWrong)

/-- 'pemmicanlaw29.PolicyDue': WHATEVER THE INPUT: true; the input reads as it did. -/
def policyDueSpec : ChangeSpec := { name := "policyDue", fn := fun _ => fun
  | [d1, d2, d3] => { results := [.lit (.bool true)], args := [d1, d2, d3] }
  | _ => none }
def policyDueRow : OpenClaim := { program := "ytccjanieihlpcaa", sum := "25257429b80b5152972c1169e1fdcec6701d8158c507b9df678963e54b3357ad", func := "pemmican/pemmicanlaw29.PolicyDue", spec := "policyDue", unfollowed := true, recurses := true, plainKeys := false, apart := false }
def PolicyDueSaid : Prop := policyDueRow.holds Try.pinned (OpenSpec.ofChange policyDueSpec)

/-- ITS FALSE NEIGHBOUR: 'it returns false'. Refute it at one input. -/
def policyDueWrong : ChangeSpec := { name := "policyDue", fn := fun _ => fun
  | [d1, d2, d3] => { results := [.lit (.bool false)], args := [d1, d2, d3] }
  | _ => none }
def PolicyDueWrongFalsely : Prop := policyDueRow.holds Try.pinned (OpenSpec.ofChange policyDueWrong)

/-- 'pemmicanlaw19.TrainPieces': WHATEVER THE INPUT: true; the input reads as it did. -/
def trainPiecesSpec : ChangeSpec := { name := "trainPieces", fn := fun _ => fun
  | [d1, d2] => { results := [.lit (.bool true)], args := [d1, d2] }
  | _ => none }
def trainPiecesRow : OpenClaim := { program := "ytccjanieihlpcaa", sum := "25257429b80b5152972c1169e1fdcec6701d8158c507b9df678963e54b3357ad", func := "pemmican/pemmicanlaw19.TrainPieces", spec := "trainPieces", inPlace := ["internal/abi.NoEscape", "internal/bytealg.MakeNoZero"], unfollowed := true, recurses := true, plainKeys := false, apart := false }
def TrainPiecesSaid : Prop := trainPiecesRow.holds Try.pinned (OpenSpec.ofChange trainPiecesSpec)

/-- ITS FALSE NEIGHBOUR: 'it returns false'. Refute it at one input. -/
def trainPiecesWrong : ChangeSpec := { name := "trainPieces", fn := fun _ => fun
  | [d1, d2] => { results := [.lit (.bool false)], args := [d1, d2] }
  | _ => none }
def TrainPiecesWrongFalsely : Prop := trainPiecesRow.holds Try.pinned (OpenSpec.ofChange trainPiecesWrong)

/-- 'pemmicanlaw19.TrainWorth': WHATEVER THE INPUT: true; the input reads as it did. -/
def trainWorthSpec : ChangeSpec := { name := "trainWorth", fn := fun _ => fun
  | [d1, d2] => { results := [.lit (.bool true)], args := [d1, d2] }
  | _ => none }
def trainWorthRow : OpenClaim := { program := "ytccjanieihlpcaa", sum := "25257429b80b5152972c1169e1fdcec6701d8158c507b9df678963e54b3357ad", func := "pemmican/pemmicanlaw19.TrainWorth", spec := "trainWorth", inPlace := ["internal/abi.NoEscape", "internal/bytealg.MakeNoZero"], unfollowed := true, recurses := true, plainKeys := false, apart := false }
def TrainWorthSaid : Prop := trainWorthRow.holds Try.pinned (OpenSpec.ofChange trainWorthSpec)

/-- ITS FALSE NEIGHBOUR: 'it returns false'. Refute it at one input. -/
def trainWorthWrong : ChangeSpec := { name := "trainWorth", fn := fun _ => fun
  | [d1, d2] => { results := [.lit (.bool false)], args := [d1, d2] }
  | _ => none }
def TrainWorthWrongFalsely : Prop := trainWorthRow.holds Try.pinned (OpenSpec.ofChange trainWorthWrong)

/-- 'pemmicanlaw19.TrainMost': WHATEVER THE INPUT: true; the input reads as it did. -/
def trainMostSpec : ChangeSpec := { name := "trainMost", fn := fun _ => fun
  | [d1, d2] => { results := [.lit (.bool true)], args := [d1, d2] }
  | _ => none }
def trainMostRow : OpenClaim := { program := "ytccjanieihlpcaa", sum := "25257429b80b5152972c1169e1fdcec6701d8158c507b9df678963e54b3357ad", func := "pemmican/pemmicanlaw19.TrainMost", spec := "trainMost", inPlace := ["internal/abi.NoEscape", "internal/bytealg.MakeNoZero"], unfollowed := true, recurses := true, plainKeys := false, apart := false }
def TrainMostSaid : Prop := trainMostRow.holds Try.pinned (OpenSpec.ofChange trainMostSpec)

/-- ITS FALSE NEIGHBOUR: 'it returns false'. Refute it at one input. -/
def trainMostWrong : ChangeSpec := { name := "trainMost", fn := fun _ => fun
  | [d1, d2] => { results := [.lit (.bool false)], args := [d1, d2] }
  | _ => none }
def TrainMostWrongFalsely : Prop := trainMostRow.holds Try.pinned (OpenSpec.ofChange trainMostWrong)

/- THE SECOND FORM. 'bulk': how many values and letters a reading holds, each counted each time it is reached (what is shared counts as often as it is met; a slice's spare places count too). A statement '..UptoSaid' is the law's where the arguments, and the package variables that the reading takes, are together of bulk at most 1048576: NARROWER than '..Said'. Prove '..Said' where nothing that the law and all that it calls make is longer than what came in: it says more and counts as full. Else prove '..UptoSaid'. A law counts once. -/
mutual
def uptoBulk {H : Type} : DataW H → Nat
  | .lit (.string bytes) => bytes.length + 1
  | .lit _ => 1
  | .nil => 1
  | .ptr d => uptoBulk d + 1
  | .slice elems spare => uptoBulkAll elems + uptoBulkAll spare + 1
  | .agg parts => uptoBulkAll parts + 1
  | .iface _ d => uptoBulk d + 1
  | .map entries => uptoBulkEntries entries + 1
  | .held _ => 1
def uptoBulkAll {H : Type} : List (DataW H) → Nat
  | [] => 0
  | d :: r => uptoBulk d + uptoBulkAll r
def uptoBulkEntries {H : Type} : List (Lit × DataW H) → Nat
  | [] => 0
  | x :: r => uptoBulkEntry x + uptoBulkEntries r
def uptoBulkEntry {H : Type} : Lit × DataW H → Nat
  | (.string bytes, d) => bytes.length + uptoBulk d + 1
  | (_, d) => uptoBulk d + 1
 end
def uptoSmall : (H : Type) → List (DataW H) → Bool := fun _ ds => decide (uptoBulkAll ds ≤ 1048576)
def OpenSpec.upto (s : _root_.Go.ChangeSpec) : _root_.Go.OpenSpec := { _root_.Go.OpenSpec.ofChange s with cond := some uptoSmall }

/-- 'pemmicanlaw36.AuditFinds', WHERE WHAT IT READS IS OF BULK AT MOST 1048576: true; the input reads as it did. -/
def auditFindsUptoRow : OpenClaim := { program := "ytccjanieihlpcaa", sum := "25257429b80b5152972c1169e1fdcec6701d8158c507b9df678963e54b3357ad", func := "pemmican/pemmicanlaw36.AuditFinds", spec := "auditFinds", plainKeys := false, apart := false, narrowed := true }
def AuditFindsUptoSaid : Prop := auditFindsUptoRow.holds Try.pinned (OpenSpec.upto auditFindsSpec)

/-- 'pemmicanlaw33.ScriptBack', WHERE WHAT IT READS IS OF BULK AT MOST 1048576: true; the input reads as it did. -/
def scriptBackUptoRow : OpenClaim := { program := "ytccjanieihlpcaa", sum := "25257429b80b5152972c1169e1fdcec6701d8158c507b9df678963e54b3357ad", func := "pemmican/pemmicanlaw33.ScriptBack", spec := "scriptBack", plainKeys := false, apart := false, narrowed := true }
def ScriptBackUptoSaid : Prop := scriptBackUptoRow.holds Try.pinned (OpenSpec.upto scriptBackSpec)

/-- 'pemmicanlaw33.ScriptAny', WHERE WHAT IT READS IS OF BULK AT MOST 1048576: true; the input reads as it did. -/
def scriptAnyUptoRow : OpenClaim := { program := "ytccjanieihlpcaa", sum := "25257429b80b5152972c1169e1fdcec6701d8158c507b9df678963e54b3357ad", func := "pemmican/pemmicanlaw33.ScriptAny", spec := "scriptAny", plainKeys := false, apart := false, narrowed := true }
def ScriptAnyUptoSaid : Prop := scriptAnyUptoRow.holds Try.pinned (OpenSpec.upto scriptAnySpec)

/-- 'pemmicanlaw29.PolicyTracks', WHERE WHAT IT READS IS OF BULK AT MOST 1048576: true; the input reads as it did. -/
def policyTracksUptoRow : OpenClaim := { program := "ytccjanieihlpcaa", sum := "25257429b80b5152972c1169e1fdcec6701d8158c507b9df678963e54b3357ad", func := "pemmican/pemmicanlaw29.PolicyTracks", spec := "policyTracks", unfollowed := true, recurses := true, plainKeys := false, apart := false, narrowed := true }
def PolicyTracksUptoSaid : Prop := policyTracksUptoRow.holds Try.pinned (OpenSpec.upto policyTracksSpec)

/-- 'pemmicanlaw29.PolicyBases', WHERE WHAT IT READS IS OF BULK AT MOST 1048576: true; the input reads as it did. -/
def policyBasesUptoRow : OpenClaim := { program := "ytccjanieihlpcaa", sum := "25257429b80b5152972c1169e1fdcec6701d8158c507b9df678963e54b3357ad", func := "pemmican/pemmicanlaw29.PolicyBases", spec := "policyBases", unfollowed := true, recurses := true, plainKeys := false, apart := false, narrowed := true }
def PolicyBasesUptoSaid : Prop := policyBasesUptoRow.holds Try.pinned (OpenSpec.upto policyBasesSpec)

/-- 'pemmicanlaw29.PolicyDue', WHERE WHAT IT READS IS OF BULK AT MOST 1048576: true; the input reads as it did. -/
def policyDueUptoRow : OpenClaim := { program := "ytccjanieihlpcaa", sum := "25257429b80b5152972c1169e1fdcec6701d8158c507b9df678963e54b3357ad", func := "pemmican/pemmicanlaw29.PolicyDue", spec := "policyDue", unfollowed := true, recurses := true, plainKeys := false, apart := false, narrowed := true }
def PolicyDueUptoSaid : Prop := policyDueUptoRow.holds Try.pinned (OpenSpec.upto policyDueSpec)

/-- 'pemmicanlaw19.TrainPieces', WHERE WHAT IT READS IS OF BULK AT MOST 1048576: true; the input reads as it did. -/
def trainPiecesUptoRow : OpenClaim := { program := "ytccjanieihlpcaa", sum := "25257429b80b5152972c1169e1fdcec6701d8158c507b9df678963e54b3357ad", func := "pemmican/pemmicanlaw19.TrainPieces", spec := "trainPieces", inPlace := ["internal/abi.NoEscape", "internal/bytealg.MakeNoZero"], unfollowed := true, recurses := true, plainKeys := false, apart := false, narrowed := true }
def TrainPiecesUptoSaid : Prop := trainPiecesUptoRow.holds Try.pinned (OpenSpec.upto trainPiecesSpec)

/-- 'pemmicanlaw19.TrainWorth', WHERE WHAT IT READS IS OF BULK AT MOST 1048576: true; the input reads as it did. -/
def trainWorthUptoRow : OpenClaim := { program := "ytccjanieihlpcaa", sum := "25257429b80b5152972c1169e1fdcec6701d8158c507b9df678963e54b3357ad", func := "pemmican/pemmicanlaw19.TrainWorth", spec := "trainWorth", inPlace := ["internal/abi.NoEscape", "internal/bytealg.MakeNoZero"], unfollowed := true, recurses := true, plainKeys := false, apart := false, narrowed := true }
def TrainWorthUptoSaid : Prop := trainWorthUptoRow.holds Try.pinned (OpenSpec.upto trainWorthSpec)

/-- 'pemmicanlaw19.TrainMost', WHERE WHAT IT READS IS OF BULK AT MOST 1048576: true; the input reads as it did. -/
def trainMostUptoRow : OpenClaim := { program := "ytccjanieihlpcaa", sum := "25257429b80b5152972c1169e1fdcec6701d8158c507b9df678963e54b3357ad", func := "pemmican/pemmicanlaw19.TrainMost", spec := "trainMost", inPlace := ["internal/abi.NoEscape", "internal/bytealg.MakeNoZero"], unfollowed := true, recurses := true, plainKeys := false, apart := false, narrowed := true }
def TrainMostUptoSaid : Prop := trainMostUptoRow.holds Try.pinned (OpenSpec.upto trainMostSpec)

end Rows
end Go.Proofs.Ytccjanieihlpcaa
