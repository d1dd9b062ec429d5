/- Closed calls, evaluated once, and the table that knows what they come to. No condition. -/
import Derived.Test.YtkcfkegkhopakaaGreatDoorTabSg
import Derived.Test.YtkcfkegkhopakaaGreatDoorShX3
import Derived.KernelRfl
namespace Go.Proofs.YtkcfkegkhopakaaGreatDoor
open Go Go.Ev Go.Sh
set_option linter.unusedVariables false
theorem knSg26 : (evF TB0Sg 400 26 [] Heap.empty).map (fun x => x.1) = some (.bool true) := by kernel_rfl
def memSg (f : Nat) (args : List AV) : Option AV :=
  bif f.beq 26 then (match args with | [] => some (.bool true) | _ => none) else none
noncomputable def TBSg : Tab := TB0Sg.knows memSg
theorem memOkSg : ∀ f args v, memSg f args = some v → mdSg f = 2 ∧ (∃ F, TB0Sg.fn f = some F) ∧ ∃ n H', evF TB0Sg n f args Heap.empty = some (v, H') := by
  intro f args v h
  unfold memSg at h
  refine bif_split h (fun hf h => ?_) (fun h => ?_)
  · obtain rfl : f = 26 := Nat.eq_of_beq_eq_true hf
    split at h
    · obtain rfl := Option.some.inj h
      obtain ⟨x, hx, he⟩ := Option.map_eq_some_iff.1 knSg26
      exact ⟨by kernel_rfl, ⟨_, (inT_of (m := 2) (by kernel_rfl)).1⟩, 400, x.2, by rw [hx, ← he]⟩
    · simp at h
  simp at h
theorem goodTabSg [Home] (hL : ∀ w, Home.I w → LibOk Tryz.prog 3 w) : GoodTab Tryz.prog mdSg TBSg := (goodTab0Sg hL).knows (by kernel_rfl) memOkSg
end Go.Proofs.YtkcfkegkhopakaaGreatDoor
