/- The law of instructions' texts. No condition beyond the inputs'. -/
import Derived.Test.YtkcfkegkhopakaaGreatDoorPlTx
namespace Go.Proofs.YtkcfkegkhopakaaGreatDoor
open Go Go.Ev Go.Sh
set_option linter.unusedVariables false
set_option linter.unusedSimpArgs false
set_option maxRecDepth 100000

theorem Text_right {N : Nat} (hN : 100 ≤ N) {x : Ins} (hv : I64 x.2.2.2.2.1) {k rd r1 r2 : Nat} {v : Int} {aq rl : Bool} {p s : Nat} (hr : rightB x = true) (h : Rt x k rd r1 r2 v aq rl p s) : F13 N x = some (txt k rd r1 r2 v aq rl p s, 0) := by
  have hv' : I64 v := by have := hv; rw [h.eq] at this; exact this
  unfold F13 R13
  rw [RightP_is hN hv, bindS_some, hr, Bool.not_true, br_f, text_is hN h hv', bindS_some]
theorem Text_wrong {N : Nat} (hN : 100 ≤ N) {x : Ins} (hv : I64 x.2.2.2.2.1) (hr : rightB x = false) : F13 N x = some ([], 1) := by
  unfold F13 R13
  rw [RightP_is hN hv, bindS_some, hr, Bool.not_false, br_t]


end Go.Proofs.YtkcfkegkhopakaaGreatDoor
