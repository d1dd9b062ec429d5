/- Closed calls, evaluated once, and the table that knows what they come to. No condition. -/
import Derived.Test.YtkcfkegkhopakaaGreatDoorTabSa
import Derived.Test.YtkcfkegkhopakaaGreatDoorShX3
import Derived.KernelRfl
namespace Go.Proofs.YtkcfkegkhopakaaGreatDoor
open Go Go.Ev Go.Sh
set_option linter.unusedVariables false
theorem knSa18 : (evF TB0Sa 400 18 [] Heap.empty).map (fun x => x.1) = some (.bool true) := by kernel_rfl
def memSa (f : Nat) (args : List AV) : Option AV :=
  bif f.beq 18 then (match args with | [] => some (.bool true) | _ => none) else none
noncomputable def TBSa : Tab := TB0Sa.knows memSa
theorem memOkSa : ∀ f args v, memSa f args = some v → mdSa f = 2 ∧ (∃ F, TB0Sa.fn f = some F) ∧ ∃ n H', evF TB0Sa n f args Heap.empty = some (v, H') := by
  intro f args v h
  unfold memSa at h
  refine bif_split h (fun hf h => ?_) (fun h => ?_)
  · obtain rfl : f = 18 := Nat.eq_of_beq_eq_true hf
    split at h
    · obtain rfl := Option.some.inj h
      obtain ⟨x, hx, he⟩ := Option.map_eq_some_iff.1 knSa18
      exact ⟨by kernel_rfl, ⟨_, (inT_of (m := 2) (by kernel_rfl)).1⟩, 400, x.2, by rw [hx, ← he]⟩
    · simp at h
  simp at h
theorem goodTabSa [Home] (hL : ∀ w, Home.I w → LibOk Tryz.prog 3 w) : GoodTab Tryz.prog mdSa TBSa := (goodTab0Sa hL).knows (by kernel_rfl) memOkSa
end Go.Proofs.YtkcfkegkhopakaaGreatDoor
