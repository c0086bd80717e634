/- Functions that are told otherwise than by their code: none. -/
import Derived.Test.YtlboioplemlneaaKLowCode
set_option linter.unusedVariables false
namespace Go.Proofs.Ytlboioplemlneaa.K
open Go Go.Proofs
def R : FuncId → Option (List Value → Heap → Option (Value × Heap)) := fun _ => none
theorem R_ok : ∀ f p, R f = some p → PrimOK Go.Proofs.Try.prog f p := fun f p h => by cases h
end Go.Proofs.Ytlboioplemlneaa.K
