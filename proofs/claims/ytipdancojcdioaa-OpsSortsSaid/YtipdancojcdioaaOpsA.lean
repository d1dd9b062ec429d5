/- What the evaluator says of the law OpsSorts: true, of every argument. No condition. -/
import Derived.Test.YtipdancojcdioaaEvU
import Derived.Test.YtipdancojcdioaaTabOps
import Derived.KernelRfl
namespace Go.Proofs.Ytipdancojcdioaa
open Go Go.Ev
set_option maxRecDepth 100000
set_option linter.unusedVariables false

theorem one_hi (a : Int) : evF TBOps 20 42 [.sym .i64 a (some 80) (some 9223372036854775807)] Heap.empty = some (.bool true, Heap.empty) := by kernel_rfl
theorem one_lo (a : Int) : evF TBOps 20 42 [.sym .i64 a (some (-9223372036854775808)) (some (-2))] Heap.empty = some (.bool true, Heap.empty) := by kernel_rfl

def isTrue : Option (AV × Heap) → Bool
  | some (.bool true, _) => true
  | _ => false

theorem one_mid : (List.range 81).all (fun i => isTrue (evF TBOps 20 42 [.int .i64 ((i : Int) - 1)] Heap.empty)) = true := by kernel_rfl

end Go.Proofs.Ytipdancojcdioaa
