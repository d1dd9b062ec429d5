/- Closed calls, evaluated once, and the table that knows what they come to. No condition. -/
import Derived.Test.YtkcfkegkhopakaaDoorTabSh
import Derived.Test.YtkcfkegkhopakaaDoorShX3
import Derived.KernelRfl
namespace Go.Proofs.YtkcfkegkhopakaaDoor
open Go Go.Ev Go.Sh
set_option linter.unusedVariables false
theorem knSh5 : (evF TB0Sh 400 5 [] Heap.empty).map (fun x => x.1) = some (.bool true) := by kernel_rfl
def memSh (f : Nat) (args : List AV) : Option AV :=
  bif f.beq 5 then (match args with | [] => some (.bool true) | _ => none) else none
noncomputable def TBSh : Tab := TB0Sh.knows memSh
theorem memOkSh : ∀ f args v, memSh f args = some v → mdSh f = 2 ∧ (∃ F, TB0Sh.fn f = some F) ∧ ∃ n H', evF TB0Sh n f args Heap.empty = some (v, H') := by
  intro f args v h
  unfold memSh at h
  refine bif_split h (fun hf h => ?_) (fun h => ?_)
  · obtain rfl : f = 5 := Nat.eq_of_beq_eq_true hf
    split at h
    · obtain rfl := Option.some.inj h
      obtain ⟨x, hx, he⟩ := Option.map_eq_some_iff.1 knSh5
      exact ⟨by kernel_rfl, ⟨_, (inT_of (m := 2) (by kernel_rfl)).1⟩, 400, x.2, by rw [hx, ← he]⟩
    · simp at h
  simp at h
theorem goodTabSh [Home] (hL : ∀ w, Home.I w → LibOk Tryd.prog 3 w) : GoodTab Tryd.prog mdSh TBSh := (goodTab0Sh hL).knows (by kernel_rfl) memOkSh
end Go.Proofs.YtkcfkegkhopakaaDoor
