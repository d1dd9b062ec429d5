/- The law of instructions' texts. No condition beyond the inputs'. -/
import Derived.Test.YtkcfkegkhopakaaGreatDoorPlTx
namespace Go.Proofs.YtkcfkegkhopakaaGreatDoor
open Go Go.Ev Go.Sh
set_option linter.unusedVariables false
set_option linter.unusedSimpArgs false
set_option maxRecDepth 100000

theorem Text_right {N : Nat} (hN : 100 ≤ N) {x : Ins} (hv : I64 x.2.2.2.2.1) {k rd r1 r2 : Nat} {v : Int} {aq rl : Bool} {p s : Nat} (hr : rightB x = true) (h : Rt x k rd r1 r2 v aq rl p s) : F13 N x = some (txt k rd r1 r2 v aq rl p s, 0) := by
  have hv' : I64 v := by have := hv; rw [h.eq] at this; exact this
  unfold F13 R13
  rw [RightP_is hN hv, bindS_some, hr, Bool.not_true, br_f, text_is hN h hv', bindS_some]
theorem Text_wrong {N : Nat} (hN : 100 ≤ N) {x : Ins} (hv : I64 x.2.2.2.2.1) (hr : rightB x = false) : F13 N x = some ([], 1) := by
  unfold F13 R13
  rw [RightP_is hN hv, bindS_some, hr, Bool.not_false, br_t]


theorem texts_t {N : Nat} (hN : 100 ≤ N) {x : Ins} (hv : I64 x.2.2.2.2.1) (hm : x.1 ≤ 9223372036854775807) : F3 N x = some true := by
  unfold F3 R3
  have ha : F12 N = some true := rfl
  rw [ha, bindS_some]
  simp only [Bool.not_true, br_f]
  rw [rRight_is hN hm]
  cases hr : rightB x with
  | false =>
    rw [Text_wrong hN hv hr, bindS_some, bindS_some, Bool.not_false, br_t, jp_eq]
    rfl
  | true =>
    obtain ⟨k, rd, r1, r2, v, aq, rl, p, s, h⟩ := right_rt hr
    have hv' : I64 v := by have := hv; rw [h.eq] at this; exact this
    rw [Text_right hN hv hr h, bindS_some, bindS_some, Bool.not_true, br_f, jp_eq, bindS_some, br_t, br_true (by rfl), rText_is hN h hv', bindS_some]
    simp only [beq_self_eq_true]

end Go.Proofs.YtkcfkegkhopakaaGreatDoor
