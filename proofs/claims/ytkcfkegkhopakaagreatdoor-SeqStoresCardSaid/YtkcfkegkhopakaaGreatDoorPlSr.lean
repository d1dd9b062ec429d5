/- A step: the program's and the document's are the same. No condition beyond the inputs'. -/
import Derived.Test.YtkcfkegkhopakaaGreatDoorPlSq
namespace Go.Proofs.YtkcfkegkhopakaaGreatDoor
open Go Go.Ev Go.Sh
set_option linter.unusedVariables false
set_option linter.unusedSimpArgs false
set_option maxRecDepth 100000

theorem FOk.op {i : Ins} {c : Int} (h : FOk i c) : ∃ (k : Nat) (rest : Rest), k ≤ 75 ∧ i = ((k : Int), rest) ∧ RegOk ((k : Int), rest) := by
  rcases h with ⟨h, _⟩ | ⟨_, n, k, h1, h2, h3, h4⟩
  · exact ⟨0, _, by omega, h, noIns_ok⟩
  · exact ⟨k, _, h2, h4, insN_ok n k⟩

set_option maxHeartbeats 4000000
end Go.Proofs.YtkcfkegkhopakaaGreatDoor
