/- The law of texts read. No condition beyond the inputs'. -/
import Derived.Test.YtkcfkegkhopakaaGreatDoorPlRg
namespace Go.Proofs.YtkcfkegkhopakaaGreatDoor
open Go Go.Ev Go.Sh
set_option linter.unusedVariables false
set_option linter.unusedSimpArgs false
set_option maxRecDepth 100000

/-- a candidate whose text it is -/
def okC (N : Nat) (s : List UInt8) (c : Ins) : Prop := rightB c = true ∧ F15 N c = some s

theorem rRead_is {N : Nat} (hN : 1002 ≤ N) {s : List UInt8} (hs : s.length ≤ 900) (RES : Ins × Bool) (hA : ∀ c, I64 c.2.2.2.2.1 → okC N s c → RES = (c, true))
    (hB : RES = (noIns, false) ∨ ∃ k a : Nat, 1 ≤ k ∧ k ≤ 75 ∧ a < 4 ∧ okC N s (canC N (wrd [] s) k a)) : F17 N s = some RES := by
  have hW : (wrd [] s).length ≤ 901 := by have := wrd_len s []; omega
  have hm : ∀ x ∈ wrd [] s, x.length ≤ 900 := fun x hx => by have := wrd_mem s [] x hx; simp only [List.length_nil] at this; omega
  unfold F17 R17
  rw [words_is hs hN, bindS_some]
  generalize wrd [] s = W at hW hm hB
  refine fixN_ind (fun m (y : Int) => ∃ o : Nat, y = (o : Int) ∧ o + m = 76 ∧ 1 ≤ o ∧ (RES = (noIns, false) ∨ ∃ k a : Nat, o ≤ k ∧ k ≤ 75 ∧ a < 4 ∧ okC N s (canC N W k a))) (fun _ out => out = some RES) ?_ N 75 _ (by omega)
    ⟨1, rfl, by omega, Nat.le_refl _, by rcases hB with h | ⟨k, a, h1, h2, h3, h4⟩; exact Or.inl h; exact Or.inr ⟨k, a, h1, h2, h3, h4⟩⟩
  rintro m y again1 ⟨o, rfl, ho, h1, hx⟩ ih
  rcases Nat.eq_zero_or_pos m with h0 | h0
  · rw [brF (by omega)]
    rcases hx with h | ⟨k, a, h2, h3, _⟩
    · rw [h]; rfl
    · omega
  · have wo : IntKind.i64.wrap ((o : Int) + 1) = ((o + 1 : Nat) : Int) := by rw [wrap64 (by omega) (by omega)]; omega
    have t := siz_ok (N := N) (by omega) (k := o) (by omega)
    rw [brT (by omega), t.srtR, bindS_some, wo]
    refine fixN_ind (fun m (y : Int) => ∃ a : Nat, y = (a : Int) ∧ a + m = 4 ∧ (RES = (noIns, false) ∨ ∃ k a' : Nat, (o < k ∨ (k = o ∧ a ≤ a')) ∧ k ≤ 75 ∧ a' < 4 ∧ okC N s (canC N W k a'))) (fun _ out => out = some RES) ?_ N 4 _ (by omega)
      ⟨0, rfl, rfl, by rcases hx with h | ⟨k, a, h2, h3, h4, h5⟩; exact Or.inl h; exact Or.inr ⟨k, a, by omega, h3, h4, h5⟩⟩
    rintro m2 y again4 ⟨a, rfl, ha, hx2⟩ ih2
    rcases Nat.eq_zero_or_pos m2 with h02 | h02
    · rw [brF (by omega)]
      refine ih (m - 1) _ (by omega) ⟨o + 1, rfl, by omega, by omega, ?_⟩
      rcases hx2 with h | ⟨k, a', h2, h3, h4, h5⟩
      · exact Or.inl h
      · exact Or.inr ⟨k, a', by omega, h3, h4, h5⟩
    · have wa : IntKind.i64.wrap ((a : Int) + 1) = ((a + 1 : Nat) : Int) := by rw [wrap64 (by omega) (by omega)]; omega
      have nx : ¬ okC N s (canC N W o a) → again4 ((a + 1 : Nat) : Int) = some RES := by
        intro hno
        refine ih2 (m2 - 1) _ (by omega) ⟨a + 1, rfl, by omega, ?_⟩
        rcases hx2 with h | ⟨k, a', h2, h3, h4, h5⟩
        · exact Or.inl h
        · refine Or.inr ⟨k, a', ?_, h3, h4, h5⟩
          rcases h2 with h2 | ⟨rfl, h2⟩
          · exact Or.inl h2
          · rcases Nat.lt_or_ge a a' with h6 | h6
            · exact Or.inr ⟨rfl, h6⟩
            · have : a = a' := by omega
              subst this
              exact absurd h5 hno
      obtain ⟨e1, e2⟩ := can_inv N W o a
      rw [brT (by omega), jp_val (v := canY o a)]
      · rw [cand_loop hN hW hm]
        simp only
        show jp _ (fun K42 => bindS (F14 N (canC N W o a)) (fun (y43 : Bool) => br y43 (bindS (F15 N (canC N W o a)) (fun (y44 : List UInt8) => K42 (y44 == s))) (K42 false))) = some RES
        have key : jp (fun (y41 : Bool) => br y41 (some (canC N W o a, true)) (again4 (IntKind.i64.wrap ((a : Int) + 1)))) (fun K42 => bindS (F14 N (canC N W o a)) (fun (y43 : Bool) => br y43 (bindS (F15 N (canC N W o a)) (fun (y44 : List UInt8) => K42 (y44 == s))) (K42 false))) = some RES := by
          have hno := nx
          unfold okC at hno
          have hyes := hA (canC N W o a) e2
          unfold okC at hyes
          generalize canC N W o a = c at e1 e2 hno hyes ⊢
          rw [jp_eq, rRight_is (by omega) (by rw [e1]; omega), bindS_some, wa]
          cases hr : rightB c with
          | false =>
            rw [br_f]
            exact hno (fun h => by rw [hr] at h; simp at h)
          | true =>
            obtain ⟨k, rd, r1, r2, v, aq, rl, p, q, h⟩ := right_rt hr
            have hv' : I64 v := by have := e2; rw [h.eq] at this; exact this
            rw [br_t, rText_is (by omega) h hv', bindS_some]
            rw [rText_is (by omega) h hv'] at hno hyes
            by_cases he : txt k rd r1 r2 v aq rl p q = s
            · have hb : (txt k rd r1 r2 v aq rl p q == s) = true := by rw [he]; simp
              dsimp only
              rw [br_true hb, hyes ⟨hr, by rw [he]⟩]
            · have hb : (txt k rd r1 r2 v aq rl p q == s) = false := by simp [he]
              dsimp only
              rw [br_false hb]
              exact hno (fun h => he (Option.some.inj h.2))
        exact key
      · intro K
        unfold canY
        cases decide ((o : Int) = 51) <;> rfl

theorem Read_e {N : Nat} {s : List UInt8} {z : Ins} {e : Int} (h : F16 N s = some (z, e)) : e = 0 ∨ (z = noIns ∧ e = 5) := by
  revert h
  unfold F16 R16
  simp only [jp_eq]
  cases F50 N s with
  | none => intro h; cases h
  | some y =>
    rw [bindS_some]
    cases F38 N y with
    | none => intro h; cases h
    | some b =>
      rw [bindS_some]
      cases b with
      | false =>
        intro h
        have h := Option.some.inj h
        exact Or.inr ⟨(congrArg Prod.fst h).symm, (congrArg Prod.snd h).symm⟩
      | true =>
        cases F39 N y with
        | none => intro h; cases h
        | some t =>
          rw [Bool.not_true, br_f, bindS_some]
          cases (t == s) with
          | true => intro h; exact Or.inl (congrArg Prod.snd (Option.some.inj h)).symm
          | false =>
            intro h
            have h := Option.some.inj h
            exact Or.inr ⟨(congrArg Prod.fst h).symm, (congrArg Prod.snd h).symm⟩


theorem reads_t {N : Nat} (hN : 1002 ≤ N) (s : List UInt8) : F4 N s = some true := by
  unfold F4 R4
  have ha : F12 N = some true := rfl
  rw [ha, bindS_some, bindS_some]
  simp only [Bool.not_true, br_f]
  by_cases hl : s.length ≤ 200
  · rw [br_false (decide_eq_false (by omega))]
    obtain ⟨z, e, hz, hz2⟩ := Read_t hN (s := s) (by omega)
    have refl : ∀ u : Ins, InsT.eq u u = true := fun u => (insEq u u).2 rfl
    -- what a right candidate says
    have up : ∀ c, I64 c.2.2.2.2.1 → okC N s c → z = c ∧ e = 0 := by
      intro c hc ⟨hr, ht⟩
      obtain ⟨k, rd, r1, r2, v, aq, rl, p, q, h⟩ := right_rt hr
      have hv' : I64 v := by have := hc; rw [h.eq] at this; exact this
      rw [rText_is (by omega) h hv'] at ht
      have hR := Read_txt hN hr h hv'
      rw [Option.some.inj ht, hz] at hR
      have := Option.some.inj hR
      exact ⟨congrArg Prod.fst this, congrArg Prod.snd this⟩
    by_cases h0 : e = 0
    · obtain ⟨hr, hv, ht⟩ := hz2 h0
      obtain ⟨k, rd, r1, r2, v, aq, rl, p, q, h⟩ := right_rt hr
      have hv' : I64 v := by have := hv; rw [h.eq] at this; exact this
      rw [text_is (by omega) h hv'] at ht
      have hs : txt k rd r1 r2 v aq rl p q = s := Option.some.inj ht
      have hR := rRead_is hN (s := s) (by omega) (z, true) (fun c hc ho => by rw [(up c hc ho).1]) (Or.inr ⟨k, aI aq rl, h.k1, h.k2, by cases aq <;> cases rl <;> decide, by
        have := can_is hN h hv'
        rw [hs] at this
        rw [this]
        exact ⟨hr, by rw [rText_is (by omega) h hv', hs]⟩⟩)
      rw [hz, bindS_some, hR, bindS_some, jp_eq, bindS_some, br_t]
      simp only
      rw [br_true (refl z), br_t, br_true (decide_eq_true h0)]
    · obtain ⟨rfl, rfl⟩ : z = noIns ∧ e = 5 := by
        rcases Read_e hz with h | h
        · exact absurd h h0
        · exact h
      have hR := rRead_is hN (s := s) (by omega) (noIns, false) (fun c hc ho => absurd (up c hc ho).2 h0) (Or.inl rfl)
      rw [hz, bindS_some, hR, bindS_some, jp_eq, bindS_some, br_t]
      simp only
      rw [br_true (refl noIns), br_f, Bool.not_false, br_t]
      rfl
  · rw [br_true (decide_eq_true (by omega))]

end Go.Proofs.YtkcfkegkhopakaaGreatDoor
