/- Closed calls, evaluated once, and the table that knows what they come to. No condition. -/
import Derived.Test.YtkcfkegkhopakaaGreatDoorTabSt
import Derived.Test.YtkcfkegkhopakaaGreatDoorShX3
import Derived.KernelRfl
namespace Go.Proofs.YtkcfkegkhopakaaGreatDoor
open Go Go.Ev Go.Sh
set_option linter.unusedVariables false
theorem knSt26 : (evF TB0St 400 26 [] Heap.empty).map (fun x => x.1) = some (.bool true) := by kernel_rfl
def memSt (f : Nat) (args : List AV) : Option AV :=
  bif f.beq 26 then (match args with | [] => some (.bool true) | _ => none) else none
theorem memOkSt : ∀ f args v, memSt f args = some v → mdSt f = 2 ∧ (∃ F, TB0St.fn f = some F) ∧ ∃ n H', evF TB0St n f args Heap.empty = some (v, H') := by
  intro f args v h
  unfold memSt at h
  refine bif_split h (fun hf h => ?_) (fun h => ?_)
  · obtain rfl : f = 26 := Nat.eq_of_beq_eq_true hf
    split at h
    · obtain rfl := Option.some.inj h
      obtain ⟨x, hx, he⟩ := Option.map_eq_some_iff.1 knSt26
      exact ⟨by kernel_rfl, ⟨_, (inT_of (m := 2) (by kernel_rfl)).1⟩, 400, x.2, by rw [hx, ← he]⟩
    · simp at h
  simp at h
def im0St : List UInt8 × Int × List Int := ([115, 98, 32, 120, 49, 44, 32, 48, 40, 120, 50, 41, 10, 108, 98, 117, 32, 120, 51, 44, 32, 48, 40, 120, 50, 41, 10, 104, 97, 108, 116], 64, [35, 0, 17, 0, 131, 65, 1, 0, 115, 0, 16, 0] ++ List.replicate 52 0)
theorem imOk0St : freshOf (evF (TB0St.knows memSt) 400 24 [.str im0St.1, .int .i64 im0St.2.1] Heap.empty) = some (im0St.2.2.map (AV.int .u8), [.nilsl, .int .i64 0, .int .i64 0]) := by kernel_rfl
def im1St : List UInt8 × Int × List Int := ([115, 104, 32, 120, 49, 44, 32, 48, 40, 120, 50, 41, 10, 108, 104, 117, 32, 120, 51, 44, 32, 48, 40, 120, 50, 41, 10, 104, 97, 108, 116], 64, [35, 16, 17, 0, 131, 81, 1, 0, 115, 0, 16, 0] ++ List.replicate 52 0)
theorem imOk1St : freshOf (evF (TB0St.knows memSt) 400 24 [.str im1St.1, .int .i64 im1St.2.1] Heap.empty) = some (im1St.2.2.map (AV.int .u8), [.nilsl, .int .i64 0, .int .i64 0]) := by kernel_rfl
def im2St : List UInt8 × Int × List Int := ([115, 119, 32, 120, 49, 44, 32, 48, 40, 120, 50, 41, 10, 108, 119, 117, 32, 120, 51, 44, 32, 48, 40, 120, 50, 41, 10, 104, 97, 108, 116], 64, [35, 32, 17, 0, 131, 97, 1, 0, 115, 0, 16, 0] ++ List.replicate 52 0)
theorem imOk2St : freshOf (evF (TB0St.knows memSt) 400 24 [.str im2St.1, .int .i64 im2St.2.1] Heap.empty) = some (im2St.2.2.map (AV.int .u8), [.nilsl, .int .i64 0, .int .i64 0]) := by kernel_rfl
def im3St : List UInt8 × Int × List Int := ([115, 100, 32, 120, 49, 44, 32, 48, 40, 120, 50, 41, 10, 108, 100, 32, 120, 51, 44, 32, 48, 40, 120, 50, 41, 10, 104, 97, 108, 116], 64, [35, 48, 17, 0, 131, 49, 1, 0, 115, 0, 16, 0] ++ List.replicate 52 0)
theorem imOk3St : freshOf (evF (TB0St.knows memSt) 400 24 [.str im3St.1, .int .i64 im3St.2.1] Heap.empty) = some (im3St.2.2.map (AV.int .u8), [.nilsl, .int .i64 0, .int .i64 0]) := by kernel_rfl
def imgsSt : List (List UInt8 × Int × List Int) := [im0St, im1St, im2St, im3St]
theorem imgsOkSt : ∀ x ∈ imgsSt, ∃ n, freshOf (evF (TB0St.knows memSt) n 24 [.str x.1, .int .i64 x.2.1] Heap.empty) = some (x.2.2.map (AV.int .u8), [.nilsl, .int .i64 0, .int .i64 0]) := by
  intro x hx
  simp only [imgsSt, List.mem_cons, List.not_mem_nil, or_false] at hx
  rcases hx with rfl | rfl | rfl | rfl
  · exact ⟨400, imOk0St⟩
  · exact ⟨400, imOk1St⟩
  · exact ⟨400, imOk2St⟩
  · exact ⟨400, imOk3St⟩
noncomputable def TBSt : Tab := (TB0St.knows memSt).grants 24 (imgK imgsSt)
theorem goodTabSt [Home] (hL : ∀ w, Home.I w → LibOk Tryz.prog 3 w) : GoodTab Tryz.prog mdSt TBSt :=
  ((goodTab0St hL).knows (by kernel_rfl) memOkSt).grants (by kernel_rfl) (by kernel_rfl) ⟨_, (inT_of (T := TB0St.knows memSt) (m := 0) (by kernel_rfl)).1⟩ (imgK_ok imgsOkSt)
end Go.Proofs.YtkcfkegkhopakaaGreatDoor
