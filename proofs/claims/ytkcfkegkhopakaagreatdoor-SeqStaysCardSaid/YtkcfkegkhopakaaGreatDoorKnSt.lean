/- Closed calls, evaluated once, and the table that knows what they come to. No condition. -/
import Derived.Test.YtkcfkegkhopakaaGreatDoorTabSt
import Derived.Test.YtkcfkegkhopakaaGreatDoorShX3
import Derived.KernelRfl
namespace Go.Proofs.YtkcfkegkhopakaaGreatDoor
open Go Go.Ev Go.Sh
set_option linter.unusedVariables false
theorem knSt26 : (evF TB0St 400 26 [] Heap.empty).map (fun x => x.1) = some (.bool true) := by kernel_rfl
def memSt (f : Nat) (args : List AV) : Option AV :=
  bif f.beq 26 then (match args with | [] => some (.bool true) | _ => none) else none
def TBSt : Tab := TB0St.knows memSt
theorem memOkSt : ∀ f args v, memSt f args = some v → mdSt f = 2 ∧ (∃ F, TB0St.fn f = some F) ∧ ∃ n H', evF TB0St n f args Heap.empty = some (v, H') := by
  intro f args v h
  unfold memSt at h
  refine bif_split h (fun hf h => ?_) (fun h => ?_)
  · obtain rfl : f = 26 := Nat.eq_of_beq_eq_true hf
    split at h
    · obtain rfl := Option.some.inj h
      obtain ⟨x, hx, he⟩ := Option.map_eq_some_iff.1 knSt26
      exact ⟨rfl, ⟨_, rfl⟩, 400, x.2, by rw [hx, ← he]⟩
    · simp at h
  simp at h
theorem goodTabSt [Home] (hL : ∀ w, Home.I w → LibOk Tryz.prog 3 w) : GoodTab Tryz.prog mdSt TBSt := (goodTab0St hL).knows (by kernel_rfl) memOkSt
end Go.Proofs.YtkcfkegkhopakaaGreatDoor
