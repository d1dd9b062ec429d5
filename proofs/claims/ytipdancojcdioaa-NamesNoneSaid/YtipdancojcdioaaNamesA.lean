/- What the evaluator says of the law NamesNone: true, of every argument. No condition. -/
import Derived.Test.YtipdancojcdioaaTabNames
import Derived.Test.YtipdancojcdioaaEvR
import Derived.KernelRfl
namespace Go.Proofs.Ytipdancojcdioaa
open Go Go.Ev
set_option maxRecDepth 100000

theorem none_at (a b c : Int) : evF TNames 60 7 [.agg [.int .i64 a, .int .i64 b, .int .u64 c]] Heap.empty = some (.bool true, Heap.empty) := by kernel_rfl

theorem ev_namesNone (xs : List AV) (h : RowIs [.int .i64, .int .i64, .int .u64] xs) : ∃ H', evF TNames 60 7 [.agg xs] Heap.empty = some (.bool true, H') := by
  obtain ⟨_, _, rfl, ⟨a, rfl, _⟩, _, _, rfl, ⟨b, rfl, _⟩, _, _, rfl, ⟨c, rfl, _⟩, rfl⟩ := h
  exact ⟨_, none_at a b c⟩

end Go.Proofs.Ytipdancojcdioaa
