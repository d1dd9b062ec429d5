/- What a hart does alone is what steps do with the numbers that were read. No condition beyond the inputs'. -/
import Derived.Test.YtkcfkegkhopakaaGreatDoorPlTb
namespace Go.Proofs.YtkcfkegkhopakaaGreatDoor
open Go Go.Ev Go.Sh
set_option linter.unusedVariables false
set_option linter.unusedSimpArgs false
set_option maxRecDepth 100000

theorem ChainT.split {N : Nat} {img : List Int} : ∀ {l : List DoneT} {h h' : HartT} {i : Nat}, ChainT N img h l h' → i ≤ l.length → ∃ g : HartT, ChainT N img h (l.take i) g ∧ ChainT N img g (l.drop i) h'
  | l, h, h', 0, hc, _ => ⟨h, rfl, hc⟩
  | [], h, h', i + 1, hc, hi => by simp at hi
  | d :: l, h, h', i + 1, ⟨h1, a, b⟩, hi => by
    obtain ⟨g, g1, g2⟩ := ChainT.split (i := i) b (by simpa using hi)
    exact ⟨g, ⟨h1, a, g1⟩, g2⟩

theorem together_t {N : Nat} (hN : 1100 ≤ N) {h : HartT} (g : HartY.wf h) {most : Int} (hm : (Ty.int .u8).wf most) {img : List Int} (hb : ∀ x ∈ img, (Ty.int .u8).wf x) : F10 N h most img = some true := by
  obtain ⟨⟨p, hp, hp2⟩, hlen, hX⟩ := rg_wf g
  have hB := by_wf hb
  have hm2 := u8_wf hm
  obtain ⟨pc, X, c0⟩ := h
  simp only at hp2 hlen hX
  subst hp2
  unfold F10 R10
  have ha : F26 N = some true := rfl
  have e1 : IntKind.i64.wrap most = most := wrap64 (by omega) (by omega)
  rw [ha, bindS_some, e1]
  simp only [Bool.not_true, br_f]
  by_cases hl : img.length ≤ 1024
  · rw [br_false (decide_eq_false (by omega))]
    obtain ⟨v, hv, hch, hvl⟩ := alone_chain hN (u_nat hp) hX hlen c0 hl hB (most := most) (by omega)
    rw [hv, bindS_some]
    refine fixN_ind (fun m (s : Int × HartT) => ∃ (i : Nat) (x : HartT), s = ((i : Int), x) ∧ i + m = v.2.2.length ∧ ChainT N img x (v.2.2.drop i) v.1) (fun _ o => o = some true) ?_ N v.2.2.length _ (by omega) ⟨0, _, rfl, by omega, hch⟩
    rintro m s again ⟨i, x, rfl, hi, hc⟩ ih
    simp only
    rcases Nat.eq_zero_or_pos m with h0 | h0
    · have hd : v.2.2.drop i = [] := List.drop_eq_nil_of_le (by omega)
      rw [hd] at hc
      have hx : x = v.1 := hc
      rw [brF (by omega)]
      simp only [jp_eq, bindS_some, br_t]
      rw [hx]
      exact congrArg some (tyEq_refl (.pair (.int .u64) (.pair (.arr 32 (.int .u64)) (.int .i64))) v.1)
    · have hil : i < v.2.2.length := by omega
      have hk : (decide ((0 : Int) ≤ (i : Int)) && decide ((i : Int) < (v.2.2.length : Int))) = true := by rw [Bool.and_eq_true]; exact ⟨decide_eq_true (by omega), decide_eq_true (by omega)⟩
      have hd : v.2.2.drop i = v.2.2[i] :: v.2.2.drop (i + 1) := (List.getElem_cons_drop hil).symm
      rw [hd] at hc
      obtain ⟨h1, a, b⟩ := hc
      have hg : ∀ z : DoneT, v.2.2.getD i z = v.2.2[i] := fun z => by simp [List.getD, hil]
      rw [brT (by omega), chk_true hk, chk_true hk]
      simp only [Int.toNat_natCast, hg]
      rw [a, bindS_some, chk_true hk]
      simp only
      rw [br_false (by rw [Bool.not_eq_false']; exact tyEq_refl (.pair (.int .u64) (.pair (.pair (.int .i64) (.pair (.int .i64) (.pair (.int .i64) (.pair (.int .i64) (.pair (.int .i64) (.pair .bool (.pair .bool (.pair (.int .i64) (.int .i64))))))))) (.pair (.int .i64) (.pair (.int .u64) (.pair (.int .u64) (.pair (.int .u64) (.pair (.int .u64) .bool))))))) v.2.2[i])]
      have wn : IntKind.i64.wrap ((i : Int) + 1) = ((i + 1 : Nat) : Int) := by rw [wrap64 (by omega) (by omega)]; omega
      rw [wn]
      exact ih (m - 1) _ (by omega) ⟨i + 1, h1, rfl, by omega, b⟩
  · rw [br_true (decide_eq_true (by omega))]
    rfl
end Go.Proofs.YtkcfkegkhopakaaGreatDoor
