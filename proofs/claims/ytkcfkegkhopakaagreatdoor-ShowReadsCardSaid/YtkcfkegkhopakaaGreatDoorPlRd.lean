/- Reading a text back; the law of texts back and forth. No condition beyond the inputs'. -/
import Derived.Test.YtkcfkegkhopakaaGreatDoorPlRc
namespace Go.Proofs.YtkcfkegkhopakaaGreatDoor
open Go Go.Ev Go.Sh
set_option linter.unusedVariables false
set_option linter.unusedSimpArgs false
set_option maxRecDepth 100000

theorem numO_rng (s : List UInt8) : I64 (numO s).1 := by
  cases hb : (numO s).2 with
  | true => exact (num_true hb).1
  | false => rw [num_false hb]; exact ⟨by decide, by decide⟩
theorem cond_I64 {b : Bool} {x y : Ins} (h1 : I64 x.2.2.2.2.1) (h2 : I64 y.2.2.2.2.1) : I64 (bif b then x else y).2.2.2.2.1 := by
  cases b
  · exact h2
  · exact h1
/-- an operation's immediate is none -/
theorem operation_rng {N : Nat} (hN : 100 ≤ N) {s : List UInt8} (hs : s.length ≤ 1000) {y : Ins} (hy : F98 N s = some y) : I64 y.2.2.2.2.1 := by
  revert hy
  unfold F98 R98
  refine fixN_ind (fun m (y : Int) => ∃ i : Nat, y = (i : Int) ∧ i + m = 3) (fun _ o => o = some y → I64 y.2.2.2.2.1) ?_ N 3 _ (by omega) ⟨0, rfl, rfl⟩
  rintro m z again ⟨i, rfl, hi⟩ ih
  rcases Nat.eq_zero_or_pos m with h0 | h0
  · rw [brF (by omega)]
    obtain ⟨v, hv⟩ := ByName_t hN s
    rw [hv, bindS_some]
    intro e
    rw [← Option.some.inj e]
    exact (⟨by decide, by decide⟩ : I64 0)
  · rw [brT (by omega), chk_true (by rw [Bool.and_eq_true]; exact ⟨decide_eq_true (by omega), decide_eq_true (by omega)⟩), CutSuffix_is N hs, bindS_some]
    split
    · rw [br_t]
      obtain ⟨v, hv⟩ := ByName_t hN (List.take (s.length - (List.getD [(([46, 97, 113, 114, 108] : List UInt8), true, true), (([46, 97, 113] : List UInt8), true, false), (([46, 114, 108] : List UInt8), false, true)] (i : Int).toNat ([], false, false)).1.length) s)
      rw [hv, bindS_some]
      intro e
      rw [← Option.some.inj e]
      exact (⟨by decide, by decide⟩ : I64 0)
    · rw [br_f, wrap64 (by omega) (by omega)]
      exact ih (m - 1) _ (by omega) ⟨i + 1, by omega, by omega⟩
theorem mkB_rng (N : Nat) (s : Int) (y : Ins) (l : List (List UInt8)) (hy : I64 y.2.2.2.2.1) : I64 (mkB N s y l).2.2.2.2.1 := by
  unfold mkB
  simp only
  repeat' first
    | exact hy
    | exact numO_rng _
    | (refine cond_I64 ?_ ?_)

/-- what a text is read as: an instruction, whose text it is; or none -/
theorem Read_t {N : Nat} (hN : 1002 ≤ N) {s : List UInt8} (hs : s.length ≤ 900) : ∃ z e, F16 N s = some (z, e) ∧ (e = 0 → rightB z = true ∧ I64 z.2.2.2.2.1 ∧ F39 N z = some s) := by
  have hl : (spL 32 s).1.length ≤ s.length := by
    have hj := spL_join 32 s
    cases hb : (spL 32 s).2.2 with
    | true =>
      have := congrArg List.length (hj.1 hb)
      rw [List.length_append, List.length_cons] at this
      omega
    | false => rw [← (hj.2 hb).1]; exact Nat.le_refl _
  obtain ⟨y, hy⟩ := operation_t (N := N) (by omega) (s := (spL 32 s).1) (by omega)
  have hg := guess_is hs hN hy
  have hi : I64 (tso y).2.2.2.2.1 → I64 (mkG N (tso y) (cutG false [] (trimP (spL 32 s).2.1) ++ [[], [], []])).2.2.2.2.1 := fun h => mkB_rng N _ _ _ h
  have hI : I64 (tso y).2.2.2.2.1 := by
    have : I64 y.2.2.2.2.1 := operation_rng (by omega) (by omega) hy
    unfold tso
    cases decide (y.1 = 51) <;> exact this
  generalize mkG N (tso y) (cutG false [] (trimP (spL 32 s).2.1) ++ [[], [], []]) = z at hg hi
  have hv := hi hI
  unfold F16 R16
  rw [hg, bindS_some]
  simp only [jp_eq]
  rw [RightP_is (by omega) hv, bindS_some]
  cases hr : rightB z with
  | false => exact ⟨noIns, 5, rfl, fun h => by simp at h⟩
  | true =>
    obtain ⟨k, rd, r1, r2, v, aq, rl, p, q, h⟩ := right_rt hr
    have hv' : I64 v := by have := hv; rw [h.eq] at this; exact this
    have ht := text_is (N := N) (by omega) h hv'
    rw [Bool.not_true, br_f, ht, bindS_some]
    by_cases he : txt k rd r1 r2 v aq rl p q = s
    · refine ⟨z, 0, ?_, fun _ => ⟨hr, hv, by rw [ht, he]⟩⟩
      rw [br_false (by rw [he]; simp)]
    · refine ⟨noIns, 5, ?_, fun h => by simp at h⟩
      rw [br_true (by simp [he])]; rfl

theorem Read_txt {N : Nat} (hN : 1002 ≤ N) {x : Ins} {k rd r1 r2 : Nat} {v : Int} {aq rl : Bool} {p s : Nat} (hr : rightB x = true) (h : Rt x k rd r1 r2 v aq rl p s) (hv : I64 v) : F16 N (txt k rd r1 r2 v aq rl p s) = some (x, 0) := by
  have hv' : I64 x.2.2.2.2.1 := by rw [h.eq]; exact hv
  unfold F16 R16
  rw [guess_txt hN h hv, bindS_some]
  simp only [jp_eq]
  rw [RightP_is (by omega) hv', bindS_some, hr, Bool.not_true, br_f, text_is (by omega) h hv, bindS_some, br_false (by simp)]

theorem txt_inj {x y : Ins} {k rd r1 r2 : Nat} {v : Int} {aq rl : Bool} {p s : Nat} {k' rd' r1' r2' : Nat} {v' : Int} {aq' rl' : Bool} {p' s' : Nat} (h : Rt x k rd r1 r2 v aq rl p s) (hv : I64 v) (h' : Rt y k' rd' r1' r2' v' aq' rl' p' s') (hv' : I64 v')
    (e : txt k rd r1 r2 v aq rl p s = txt k' rd' r1' r2' v' aq' rl' p' s') : x = y := by
  have a := guess_txt (N := 1002) (Nat.le_refl _) h hv
  rw [e, guess_txt (N := 1002) (Nat.le_refl _) h' hv'] at a
  exact (Option.some.inj a).symm


end Go.Proofs.YtkcfkegkhopakaaGreatDoor
