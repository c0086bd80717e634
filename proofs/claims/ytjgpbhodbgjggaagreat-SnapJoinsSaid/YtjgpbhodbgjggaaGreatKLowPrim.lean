/- Functions that are told otherwise than by their code: those that are told so at first, and the law's first lines. -/
import Derived.Test.YtjgpbhodbgjggaaGreatKAw27
set_option linter.unusedVariables false
namespace Go.Proofs.YtjgpbhodbgjggaaGreat.K
open Go Go.Proofs
def R : FuncId → Option (List Value → Heap → Option (Value × Heap)) := fun f => if f = 22 then some (prim0 (.bool true)) else R0 f
theorem R_ok : ∀ f p, R f = some p → PrimOK Go.Proofs.Tryz.prog f p := fun f p h => by
  unfold R at h
  split at h
  · rename_i hf
    cases h; subst hf; exact aw27_ok
  · exact R0_ok f p h
theorem aw27_prim : R 22 = some (prim0 (.bool true)) := rfl
end Go.Proofs.YtjgpbhodbgjggaaGreat.K
