/- Closed calls, evaluated once, and the table that knows what they come to. No condition. -/
import Derived.Test.YtkcfkegkhopakaaGreatDoorTabSw
import Derived.Test.YtkcfkegkhopakaaGreatDoorShX3
import Derived.KernelRfl
namespace Go.Proofs.YtkcfkegkhopakaaGreatDoor
open Go Go.Ev Go.Sh
set_option linter.unusedVariables false
theorem knSw12 : (evF TB0Sw 400 12 [] Heap.empty).map (fun x => x.1) = some (.bool true) := by kernel_rfl
def memSw (f : Nat) (args : List AV) : Option AV :=
  bif f.beq 12 then (match args with | [] => some (.bool true) | _ => none) else none
noncomputable def TBSw : Tab := TB0Sw.knows memSw
theorem memOkSw : ∀ f args v, memSw f args = some v → mdSw f = 2 ∧ (∃ F, TB0Sw.fn f = some F) ∧ ∃ n H', evF TB0Sw n f args Heap.empty = some (v, H') := by
  intro f args v h
  unfold memSw at h
  refine bif_split h (fun hf h => ?_) (fun h => ?_)
  · obtain rfl : f = 12 := Nat.eq_of_beq_eq_true hf
    split at h
    · obtain rfl := Option.some.inj h
      obtain ⟨x, hx, he⟩ := Option.map_eq_some_iff.1 knSw12
      exact ⟨by kernel_rfl, ⟨_, (inT_of (m := 2) (by kernel_rfl)).1⟩, 400, x.2, by rw [hx, ← he]⟩
    · simp at h
  simp at h
theorem goodTabSw [Home] (hL : ∀ w, Home.I w → LibOk Tryz.prog 3 w) : GoodTab Tryz.prog mdSw TBSw := (goodTab0Sw hL).knows (by kernel_rfl) memOkSw
end Go.Proofs.YtkcfkegkhopakaaGreatDoor
