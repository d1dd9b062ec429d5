/- The law OpsSorts in the evaluator: a contract for one operation, and the law's body by it. No condition. -/
import Derived.Test.YtipdancojcdioaaOpsA
namespace Go.Proofs.Ytipdancojcdioaa
open Go Go.Ev
set_option maxRecDepth 100000
set_option linter.unusedVariables false

theorem anyHeap {n f : Nat} {args : List AV} {h : Heap} {v : AV} (hm : mdOps f = 2) (h0 : evF TBOps n f args h = some (v, h)) (h2 : Heap) : evF TBOps n f args h2 = some (v, h2) :=
  (((evF_sound goodTabOps Try.checked.mixed n).2.1 f args h v h h0).1 hm).2 h2

theorem one_any (n : Int) (h1 : -9223372036854775808 ≤ n) (h2 : n ≤ 9223372036854775807) (H : Heap) :
    ∃ a, (∀ j, VR j a (.int .i64 n)) ∧ evF TBOps 20 42 [a] H = some (.bool true, H) := by
  by_cases c1 : 80 ≤ n
  · exact ⟨.sym .i64 n (some 80) (some 9223372036854775807), fun j => ⟨rfl, fun l hl => by simp at hl; omega, fun l hl => by simp at hl; omega⟩, anyHeap rfl (one_hi n) H⟩
  by_cases c2 : n ≤ -2
  · exact ⟨.sym .i64 n (some (-9223372036854775808)) (some (-2)), fun j => ⟨rfl, fun l hl => by simp at hl; omega, fun l hl => by simp at hl; omega⟩, anyHeap rfl (one_lo n) H⟩
  have h := List.all_eq_true.1 one_mid (n + 1).toNat (List.mem_range.2 (by omega))
  have e : (((n + 1).toNat : Int) - 1) = n := by omega
  rw [e] at h
  refine ⟨.int .i64 n, fun j => rfl, ?_⟩
  unfold isTrue at h
  split at h
  · rename_i H' hev
    have := (((evF_sound goodTabOps Try.checked.mixed 20).2.1 42 _ _ _ _ hev).1 rfl)
    exact this.2 H
  · simp at h

def spOps (f : Nat) (args : List AV) : Option AV :=
  bif f.beq 42 then (match args with
    | [.sym .i64 n (some lo) (some hi)] => bif decide (-9223372036854775808 ≤ lo) && decide (hi ≤ 9223372036854775807) then some (.bool true) else none
    | _ => none) else none

theorem goodSpOps : GoodS Try.prog spOps := by
  intro f args v h
  unfold spOps at h
  cases hf : f.beq 42 with
  | false => simp [hf] at h
  | true =>
    obtain rfl : f = 42 := Nat.eq_of_beq_eq_true hf
    simp only [hf, cond_true] at h
    split at h
    · rename_i n lo hi
      obtain ⟨hb, h⟩ := bif_some h
      obtain rfl := Option.some.inj h
      simp only [Bool.and_eq_true, decide_eq_true_eq] at hb
      obtain ⟨fn, code, g1, g2, g3, _, _⟩ := (goodTOps 42 t42 rfl).2
      refine ⟨fun l w => run_callFunc g1 g2 g3 l w, fun j H w l hw hl => ?_⟩
      obtain ⟨c, cs, rfl, ⟨rfl, hr⟩, rfl⟩ := hl
      have r1 := hr.1 lo rfl
      have r2 := hr.2 hi rfl
      obtain ⟨a, ha, hev⟩ := one_any n (by omega) (by omega) H
      exact sound goodTabOps Try.checked.mixed hev hw ⟨_, _, rfl, ha j, rfl⟩
    · simp at h

def TBOne : Tab := ⟨TOps, spOps⟩
theorem goodTabOne : GoodTab Try.prog mdOps TBOne := ⟨goodTOps, goodSpOps⟩

theorem sorts_at (a : Int) : evF TBOne 100 9 [.sym .i64 a (some (-9223372036854775808)) (some 9223372036854775807)] Heap.empty = some (.bool true, Heap.empty) := by kernel_rfl

theorem symI (a : Int) (w : (Lit.int .i64 a).wf = true) (j : JM) : VR j (.sym .i64 a (some (-9223372036854775808)) (some 9223372036854775807)) (.int .i64 a) := by
  simp [Lit.wf, IntKind.min, IntKind.max, IntKind.signed, IntKind.bits] at w
  exact ⟨rfl, fun l hl => by simp at hl; omega, fun l hl => by simp at hl; omega⟩

theorem ev_opsSorts (a : Int) (w : (Lit.int .i64 a).wf = true) : ∃ H', evF TBOne 100 9 [.sym .i64 a (some (-9223372036854775808)) (some 9223372036854775807)] Heap.empty = some (.bool true, H') := ⟨_, sorts_at a⟩

end Go.Proofs.Ytipdancojcdioaa
