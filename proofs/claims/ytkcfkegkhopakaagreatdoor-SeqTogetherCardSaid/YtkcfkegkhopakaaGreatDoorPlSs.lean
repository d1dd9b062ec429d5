/- The instruction at every place, and what comes of doing it, are the document's. No condition beyond the inputs'. -/
import Derived.Test.YtkcfkegkhopakaaGreatDoorPlSr
namespace Go.Proofs.YtkcfkegkhopakaaGreatDoor
open Go Go.Ev Go.Sh
set_option linter.unusedVariables false
set_option linter.unusedSimpArgs false
set_option maxRecDepth 100000

abbrev HartY : Ty := .pair (.int .u64) (.pair (.arr 32 (.int .u64)) (.int .i64))

theorem u64_wf {x : Int} (g : (Ty.int .u64).wf x) : 0 ≤ x ∧ x < 18446744073709551616 := by
  have g1' : (Lit.int .u64 x).wf = true := g
  simp only [Lit.wf, IntKind.min, IntKind.max, IntKind.signed, IntKind.bits, Bool.and_eq_true, decide_eq_true_eq] at g1'
  refine ⟨by simpa using g1'.1, ?_⟩
  have := g1'.2; simp at this; omega
theorem u8_wf {x : Int} (g : (Ty.int .u8).wf x) : 0 ≤ x ∧ x < 256 := by
  have g1' : (Lit.int .u8 x).wf = true := g
  simp only [Lit.wf, IntKind.min, IntKind.max, IntKind.signed, IntKind.bits, Bool.and_eq_true, decide_eq_true_eq] at g1'
  refine ⟨by simpa using g1'.1, ?_⟩
  have := g1'.2; simp at this; omega
theorem i64_wf {x : Int} (g : (Ty.int .i64).wf x) : -9223372036854775808 ≤ x ∧ x ≤ 9223372036854775807 := by
  have g1' : (Lit.int .i64 x).wf = true := g
  simp only [Lit.wf, IntKind.min, IntKind.max, IntKind.signed, IntKind.bits, Bool.and_eq_true, decide_eq_true_eq] at g1'
  have h1 := g1'.1; have h2 := g1'.2
  simp at h1 h2
  omega
theorem by_wf {l : List Int} (g : ∀ x ∈ l, (Ty.int .u8).wf x) : BY l := fun x hx => u8_wf (g x hx)
theorem rg_wf {h : HartT} (g : HartY.wf h) : (∃ p : Nat, p < 18446744073709551616 ∧ h.1 = p) ∧ h.2.1.length = 32 ∧ RG (setD 0 h.2.1 0 0) := by
  obtain ⟨g1, ⟨g2, g3⟩, _⟩ := g
  have h1 := u64_wf g1
  have g2' : h.2.1.length = 32 := g2
  refine ⟨⟨h.1.toNat, by omega, by omega⟩, g2', rg_set (fun v hv => u64_wf (g3 v hv)) (by omega) (by decide)⟩

/-- a hart that has halted, but for register 0 -/
theorem step_halt0 (N : Nat) {h : HartT} (hc : h.2.2 ≠ 0) (rd : Int) (f : Bool) (img : List Int) :
    F29 N h rd f img = some ((h.1, setD 0 h.2.1 0 0, h.2.2), (0, noIns, 0, 0, 0, 0, 0, false)) := by
  unfold F29 R29
  rw [br_true (by rw [decide_eq_false hc]; rfl)]
  rfl

theorem steps_t {N : Nat} (hN : 100 ≤ N) {h : HartT} (g : HartY.wf h) {rd : Int} (hr : (Ty.int .u64).wf rd) (f : Bool) {img : List Int} (hb : ∀ x ∈ img, (Ty.int .u8).wf x) : F7 N h rd f img = some true := by
  obtain ⟨⟨p, hp, hp2⟩, hlen, hX⟩ := rg_wf g
  have hrd := u64_wf hr
  obtain ⟨r, rfl⟩ : ∃ r : Nat, rd = r := ⟨rd.toNat, by omega⟩
  have hB := by_wf hb
  obtain ⟨pc, X, c0⟩ := h
  simp only at hp2 hlen hX
  subst hp2
  unfold F7 R7
  have ha : F26 N = some true := rfl
  rw [ha, bindS_some, bindS_some]
  simp only [Bool.not_true, br_f]
  by_cases hl : img.length ≤ 1024
  · rw [br_false (decide_eq_false (by omega))]
    obtain ⟨i, c, e1, e2, e3⟩ := Fetch_is hN hp hl hB
    obtain ⟨y, hy, _⟩ := step_t hN (h := ((p : Int), X, c0)) (by show (0 : Int) ≤ p; omega) (by show (p : Int) < _; omega) (by intro e; simp only at e; rw [e] at hlen; simp at hlen) r f hl
    rw [e1, e2, bindS_some, bindS_some, hy, bindS_some]
    simp only [jp_eq, tyEq_refl, Bool.not_true, br_f, decide_true, bindS_some, br_t]
    by_cases hc : c0 = 0
    · subst hc
      have := (Step_eq hN hp hX (rd := r) (by omega) f hl hB).trans hy
      rw [this]
      simp only [decide_true, Bool.not_true, br_f, bindS_some, tyEq_refl, br_t]
    · rw [br_true (by rw [decide_eq_false hc]; rfl)]
      have := step_halt0 N (h := ((p : Int), X, c0)) hc r f img
      rw [hy] at this
      rw [Option.some.inj this]
      simp only
      rw [tyEq_refl, br_t]
      rfl
  · rw [br_true (decide_eq_true (by omega))]
end Go.Proofs.YtkcfkegkhopakaaGreatDoor
