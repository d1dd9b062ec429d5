/- The guess of an instruction's text is the instruction; reading back. No condition beyond the inputs'. -/
import Derived.Test.YtkcfkegkhopakaaGreatDoorPlRb
import Derived.Test.YtkcfkegkhopakaaGreatDoorPlTy
namespace Go.Proofs.YtkcfkegkhopakaaGreatDoor
open Go Go.Ev Go.Sh
set_option linter.unusedVariables false
set_option linter.unusedSimpArgs false
set_option maxRecDepth 100000

/-! ### atoms -/
def atm (a : List UInt8) : Prop := a ≠ [] ∧ ∀ c ∈ a, c ≠ 44 ∧ c ≠ 40 ∧ c ≠ 41
theorem itoa_atm {v : Int} (hv : I64 v) : atm (Lib.itoa v) := by
  obtain ⟨neg, d, h1, h2, _, _⟩ := itoa_okd hv
  rw [h1]
  have hd : ∀ c ∈ d, c ≠ 44 ∧ c ≠ 40 ∧ c ≠ 41 := by
    intro c hc
    have h := h2.all c hc
    have := h.1
    refine ⟨?_, ?_, ?_⟩ <;> (rintro rfl; revert this; decide)
  unfold sgn
  split
  · refine ⟨by simp, fun c hc => ?_⟩
    rw [List.mem_cons] at hc
    rcases hc with rfl | hc
    · decide
    · exact hd c hc
  · exact ⟨h2.ne, hd⟩
theorem reg_atm {n : Nat} (h : n < 32) : atm (regT n) := by
  refine ⟨by simp [regT], fun c hc => ?_⟩
  unfold regT at hc
  rw [List.mem_cons] at hc
  rcases hc with rfl | hc
  · decide
  · exact (itoa_atm (nat_I64 h)).2 c hc
theorem set_atm {p : Nat} (h : p < 16) : atm (setT p) := by
  have : ((List.range 16).all fun p => !(setT p).isEmpty && (setT p).all fun c => !(c == 44) && (!(c == 40) && !(c == 41))) = true := by decide
  have := List.all_eq_true.1 this p (List.mem_range.2 h)
  simp only [Bool.and_eq_true, List.all_eq_true, Bool.not_eq_true', beq_eq_false_iff_ne] at this
  refine ⟨fun e => by rw [e] at this; simp at this, fun c hc => ?_⟩
  obtain ⟨h1, h2, h3⟩ := this.2 c hc
  exact ⟨h1, h2, h3⟩

theorem atm.nc {a : List UInt8} (h : atm a) : ∀ c ∈ a, c ≠ 44 ∧ c ≠ 40 := fun c hc => ⟨(h.2 c hc).1, (h.2 c hc).2.1⟩
theorem atm.n41 {a : List UInt8} (h : atm a) : ∀ c ∈ a, c ≠ 41 := fun c hc => (h.2 c hc).2.2
theorem cut1 {a : List UInt8} (h : atm a) : cutG false [] a = [a] := by
  have := cutG_atom a [] [] h.nc
  rw [List.append_nil, List.nil_append, cutG_nil] at this
  exact this
theorem cutC {a : List UInt8} (h : atm a) (r : List UInt8) : cutG false [] (a ++ ([44, 32] ++ r)) = a :: cutG false [] r := by
  rw [cutG_atom a [] _ h.nc, List.nil_append, cutG_comma]
theorem cutO {a : List UInt8} (h : atm a) (r : List UInt8) : cutG false [] (a ++ ([40] ++ r)) = a :: cutG false [] r := by
  rw [cutG_atom a [] _ h.nc, List.nil_append, cutG_open]
theorem cutO0 (r : List UInt8) : cutG false [] ([40] ++ r) = [] :: cutG false [] r := cutG_open [] r

theorem sc3 {a b c : List UInt8} (ha : atm a) (hb : atm b) (hc : atm c) : cutG false [] (trimP (Lib.join [a, b, c] [44, 32])) = [a, b, c] := by
  rw [join3, trim_atom _ hc.1 hc.n41, List.append_assoc, List.append_assoc, List.append_assoc, cutC ha, cutC hb, cut1 hc]
theorem sc2 {a b : List UInt8} (ha : atm a) (hb : atm b) : cutG false [] (trimP (Lib.join [a, b] [44, 32])) = [a, b] := by
  rw [join2, trim_atom _ hb.1 hb.n41, List.append_assoc, cutC ha, cut1 hb]
theorem sc2b {a b c : List UInt8} (ha : atm a) (hb : atm b) (hc : atm c) : cutG false [] (trimP (Lib.join [a, b ++ [40] ++ c ++ [41]] [44, 32])) = [a, b, c] := by
  rw [join2, show a ++ [44, 32] ++ (b ++ [40] ++ c ++ [41]) = (a ++ ([44, 32] ++ (b ++ ([40] ++ c)))) ++ [41] by simp only [List.append_assoc], trim_app, cutC ha, cutO hb, cut1 hc]
theorem sc2o {a c : List UInt8} (ha : atm a) (hc : atm c) : cutG false [] (trimP (Lib.join [a, [40] ++ c ++ [41]] [44, 32])) = [a, [], c] := by
  rw [join2, show a ++ [44, 32] ++ ([40] ++ c ++ [41]) = (a ++ ([44, 32] ++ ([40] ++ c))) ++ [41] by simp only [List.append_assoc], trim_app, cutC ha, cutO0, cut1 hc]
theorem sc3o {a b c : List UInt8} (ha : atm a) (hb : atm b) (hc : atm c) : cutG false [] (trimP (Lib.join [a, b, [40] ++ c ++ [41]] [44, 32])) = [a, b, [], c] := by
  rw [join3, show a ++ [44, 32] ++ b ++ [44, 32] ++ ([40] ++ c ++ [41]) = (a ++ ([44, 32] ++ (b ++ ([44, 32] ++ ([40] ++ c))))) ++ [41] by simp only [List.append_assoc], trim_app, cutC ha, cutC hb, cutO0, cut1 hc]

theorem regO_is {n : Nat} (h : n < 32) : regO (regT n) = ((n : Int), true) := by
  unfold regT
  rw [regO_cons, num_itoa (nat_I64 h), if_pos ⟨rfl, inR_is.2 ⟨rfl, by show (0 : Int) ≤ (n : Int); omega, by show (n : Int) ≤ 31; omega⟩⟩]

/-! ### names have no blank -/
theorem nam_32 : ((List.range 76).all fun k => (nam k).all fun c => !(c == 32)) = true := by decide
theorem name_32 {k : Nat} (h : k ≤ 75) (aq rl : Bool) : ∀ c ∈ nam k ++ annT aq rl, c ≠ 32 := by
  intro c hc
  rw [List.mem_append] at hc
  rcases hc with hc | hc
  · have := List.all_eq_true.1 (List.all_eq_true.1 nam_32 k (List.mem_range.2 (by omega))) c hc
    simpa using this
  · revert c
    cases aq <;> cases rl <;> decide

/-! ### what instructions of a sort have not -/
theorem sh7_all : ((List.range 75).all fun i => Nat.beq (shf (i + 1)) 0 || decide (srt ((i + 1 : Nat) : Int) = 6)) = true := by kernel_rfl
theorem sh7 {k : Nat} (h1 : 1 ≤ k) (h2 : k ≤ 75) (h : srt k ≠ 6) : shf k = 0 := by
  have := List.all_eq_true.1 sh7_all (k - 1) (List.mem_range.2 (by omega))
  rw [show k - 1 + 1 = k by omega, decide_eq_false h, Bool.or_false] at this
  exact Nat.eq_of_beq_eq_true this
theorem imm0 {k : Nat} {v : Int} (h1 : 1 ≤ k) (h2 : k ≤ 75) (hs : 7 ≤ srt k) (hi : immOK k v = true) : v = 0 := by
  have h0 := sh7 h1 h2 (by omega)
  have hf : fmtO k = 0 := by
    unfold fmtO
    rw [if_neg (by omega), if_neg (by omega), if_neg (by omega), if_neg (by omega), if_neg (by omega), if_neg (by omega)]
  unfold immOK at hi
  rw [h0, hf] at hi
  exact of_decide_eq_true hi

theorem guess_txt {N : Nat} (hN : 1002 ≤ N) {x : Ins} {k rd r1 r2 : Nat} {v : Int} {aq rl : Bool} {p s : Nat} (h : Rt x k rd r1 r2 v aq rl p s) (hv : I64 v) : F50 N (txt k rd r1 r2 v aq rl p s) = some x := by
  obtain ⟨j1, j2⟩ := prt_join (k := k) (p := p) (s := s) h.rd1 h.r11 h.r21 hv
  have hop := operation_is (N := N) (by omega) h.k1 h.k2 h.an
  have h32 := name_32 h.k2 aq rl
  have hl := nam_len k
  have hl2 := ann_len aq rl
  have aR := reg_atm h.rd1
  have a1 := reg_atm h.r11
  have a2 := reg_atm h.r21
  have aV := itoa_atm hv
  have aP := set_atm h.ps.1
  have aS := set_atm h.ps.2
  have g3 : decide ((k : Int) = 3) = true → srt k = 2 := by
    intro h
    rw [of_decide_eq_true h]; decide
  have g50 : decide ((k : Int) = 50) = true → srt k = 8 := by
    intro h
    rw [of_decide_eq_true h]; decide
  have g51 : decide ((k : Int) = 51) = true → srt k = 8 := by
    intro h
    rw [of_decide_eq_true h]; decide
  have q0 := regO_is h.rd1
  have q1 := regO_is h.r11
  have q2 := regO_is h.r21
  have qv := num_itoa hv
  have qp := asSet_is (N := N) (by omega) h.ps.1
  have qs := asSet_is (N := N) (by omega) h.ps.2
  -- the text's head and rest
  have key : ∀ rest : List UInt8, (spL 32 (txt k rd r1 r2 v aq rl p s)).1 = nam k ++ annT aq rl → (spL 32 (txt k rd r1 r2 v aq rl p s)).2.1 = rest → mkG N (tso (opI k aq rl)) (cutG false [] (trimP rest) ++ [[], [], []]) = x → F50 N (txt k rd r1 r2 v aq rl p s) = some x := by
    intro rest e1 e2 e3
    have hlen : (txt k rd r1 r2 v aq rl p s).length ≤ 900 := by
      unfold txt
      split <;> simp only [List.length_append, List.length_cons, List.length_nil] <;> omega
    rw [guess_is hlen hN (y := opI k aq rl) (by rw [e1]; exact hop), e2, e3]
  rw [h.eq] at key ⊢
  by_cases hp : prt k rd r1 r2 v p s = []
  · have e : txt k rd r1 r2 v aq rl p s = nam k ++ annT aq rl := by unfold txt; rw [if_pos hp]
    have es := spL_no 32 _ h32
    refine key [] (by rw [e, es]) (by rw [e, es]) ?_
    have hs89 : srt k = 0 ∨ (srt k = 8 ∧ (k : Int) ≠ 50) ∨ srt k = 9 := by
      unfold prt at hp
      by_cases h50 : (k : Int) = 50
      · have := g50 (decide_eq_true h50)
        rw [this, decide_eq_true h50] at hp
        exact absurd hp (by intro e; cases e)
      · obtain hs | hs | hs | hs | hs | hs | hs | hs | hs | hs | hs | hs | hs := srt_cases k
        all_goals rw [hs] at hp
        all_goals first
          | (exact Or.inl hs)
          | (exact Or.inr (Or.inl ⟨hs, h50⟩))
          | (exact Or.inr (Or.inr hs))
          | (exfalso; revert hp; generalize decide ((k : Int) = 3) = b3; cases b3 <;> (intro e; cases e))
    have z0 : srt k ≠ 0 := by
      have : ((List.range 75).all fun i => !decide (srt ((i + 1 : Nat) : Int) = 0)) = true := by kernel_rfl
      have := List.all_eq_true.1 this (k - 1) (List.mem_range.2 (by have := h.k2; have := h.k1; omega))
      rw [show k - 1 + 1 = k by have := h.k1; omega] at this
      simpa using this
    have hw : wrO k = false := by unfold wrO; rcases hs89 with hs | ⟨hs, _⟩ | hs <;> rw [hs] <;> rfl
    have hse : seO k = false := by unfold seO; rcases hs89 with hs | ⟨hs, _⟩ | hs <;> rw [hs] <;> rfl
    have hfi : fiO k = false := by unfold fiO; rw [hse]; rcases hs89 with hs | ⟨hs, _⟩ | hs <;> rw [hs] <;> rfl
    have hv0 := imm0 h.k1 h.k2 (by omega) h.im
    have hrd := h.wz hw
    have hr1 := h.fz hfi
    have hr2 := h.sz hse
    subst hrd hr1 hr2 hv0
    have hps : (decide ((k : Int) = 51) = true → p = 3 ∧ s = 3) ∧ (decide ((k : Int) = 51) = false → p = 0 ∧ s = 0) := by
      refine ⟨fun e => h.p3 (by have := of_decide_eq_true e; omega), fun e => h.pz ?_ (by have := of_decide_eq_false e; omega)⟩
      rcases hs89 with hs | ⟨_, h50⟩ | hs
      · exact absurd hs z0
      · omega
      · intro e50
        have := g50 (decide_eq_true (by omega))
        omega
    unfold tso
    show mkG N (bif decide ((k : Int) = 51) then _ else _) _ = _
    generalize hb : decide ((k : Int) = 51) = b51 at hps
    cases b51 with
    | true =>
      obtain ⟨rfl, rfl⟩ := hps.1 rfl
      have hk : k = 51 := by have := of_decide_eq_true hb; omega
      subst hk
      rfl
    | false =>
      obtain ⟨rfl, rfl⟩ := hps.2 rfl
      show mkB N (srt (k : Int)) (opI k aq rl) _ = _
      rcases hs89 with hs | ⟨hs, h50⟩ | hs
      · exact absurd hs z0
      · rw [hs]
        show (bif decide ((k : Int) = 50) then _ else opI k aq rl) = _
        rw [decide_eq_false h50]; rfl
      · rw [hs]; rfl
  · have e : txt k rd r1 r2 v aq rl p s = (nam k ++ annT aq rl) ++ 32 :: Lib.join (prt k rd r1 r2 v p s) [44, 32] := by
      unfold txt
      rw [if_neg hp]
      simp only [List.append_assoc, List.cons_append, List.nil_append]
    have es := spL_app 32 _ (Lib.join (prt k rd r1 r2 v p s) [44, 32]) h32
    refine key _ (by rw [e, es]) (by rw [e, es]) ?_
    clear key e es
    have d4 : decide ((k : Int) = 4) = true → srt k = 2 ∧ decide ((k : Int) = 3) = false := by
      intro h
      have := of_decide_eq_true h
      rw [this]
      exact ⟨by decide, by decide⟩
    have k34 : srt k = 2 → (k : Int) = 3 ∨ (k : Int) = 4 := by
      intro hs
      have : ((List.range 75).all fun i => !decide (srt ((i + 1 : Nat) : Int) = 2) || (Nat.beq (i + 1) 3 || Nat.beq (i + 1) 4)) = true := by kernel_rfl
      have := List.all_eq_true.1 this (k - 1) (List.mem_range.2 (by have := h.k2; have := h.k1; omega))
      rw [show k - 1 + 1 = k by have := h.k1; omega, decide_eq_true hs] at this
      simp only [Bool.not_true, Bool.false_or, Bool.or_eq_true, Nat.beq_eq] at this
      omega
    have p0 : srt k ≠ 8 → p = 0 ∧ s = 0 := fun hs => h.pz (fun e => hs (by rw [e]; decide)) (fun e => hs (by rw [e]; decide))
    have h51 : srt k ≠ 8 → decide ((k : Int) = 51) = false := fun hs => by
      cases hb : decide ((k : Int) = 51) with
      | false => rfl
      | true => exact absurd (g51 hb) hs
    have T : srt k ≠ 8 → tso (opI k aq rl) = opI k aq rl := fun hs => by
      unfold tso
      rw [show decide ((opI k aq rl).1 = 51) = false from h51 hs]; rfl
    have hrd : wrO k = false → rd = 0 := h.wz
    have hr1 : fiO k = false → r1 = 0 := h.fz
    have hr2 : seO k = false → r2 = 0 := h.sz
    have hv7 : 7 ≤ srt k → v = 0 := fun hs => imm0 h.k1 h.k2 hs h.im
    obtain hs | hs | hs | hs | hs | hs | hs | hs | hs | hs | hs | hs | hs := srt_cases k
    · exact absurd (by unfold prt; rw [hs]; rfl) hp
    · have hprt : prt k rd r1 r2 v p s = [regT rd, Lib.itoa v] := by unfold prt; rw [hs]; rfl
      obtain ⟨rfl, rfl⟩ := p0 (by omega)
      have e1 := hr1 (by unfold fiO seO; rw [hs]; rfl)
      have e2 := hr2 (by unfold seO; rw [hs]; rfl)
      subst e1 e2
      rw [hprt, sc2 aR aV, T (by omega)]
      show mkB N (srt (k : Int)) _ _ = _
      rw [hs]
      show ((k : Int), ((regO (regT rd)).1, (0, (0, ((numO (Lib.itoa v)).1, (aq, (rl, (0, 0)))))))) = _
      rw [q0, qv]; rfl
    · obtain ⟨rfl, rfl⟩ := p0 (by omega)
      have e2 := hr2 (by unfold seO; rw [hs]; rfl)
      subst e2
      rcases k34 hs with h3 | h4
      · have hk : k = 3 := by omega
        subst hk
        have hprt : prt 3 rd r1 0 v 0 0 = [regT rd, Lib.itoa v] := rfl
        have e1 := hr1 rfl
        subst e1
        rw [hprt, sc2 aR aV, T (by omega)]
        show (((3 : Nat) : Int), ((regO (regT rd)).1, (0, (0, ((numO (Lib.itoa v)).1, (aq, (rl, (0, 0)))))))) = _
        rw [q0, qv]; rfl
      · have hk : k = 4 := by omega
        subst hk
        have hprt : prt 4 rd r1 0 v 0 0 = [regT rd, regT r1, Lib.itoa v] := rfl
        rw [hprt, sc3 aR a1 aV, T (by omega)]
        show (((4 : Nat) : Int), ((regO (regT rd)).1, ((regO (regT r1)).1, (0, ((numO (Lib.itoa v)).1, (aq, (rl, (0, 0)))))))) = _
        rw [q0, q1, qv]; rfl
    · have hprt : prt k rd r1 r2 v p s = [regT r1, regT r2, Lib.itoa v] := by unfold prt; rw [hs]; rfl
      obtain ⟨rfl, rfl⟩ := p0 (by omega)
      have e0 := hrd (by unfold wrO; rw [hs]; rfl)
      subst e0
      rw [hprt, sc3 a1 a2 aV, T (by omega)]
      show mkB N (srt (k : Int)) _ _ = _
      rw [hs]
      show ((k : Int), (0, ((regO (regT r1)).1, ((regO (regT r2)).1, ((numO (Lib.itoa v)).1, (aq, (rl, (0, 0)))))))) = _
      rw [q1, q2, qv]; rfl
    · have hprt : prt k rd r1 r2 v p s = [regT rd, Lib.itoa v ++ [40] ++ regT r1 ++ [41]] := by unfold prt; rw [hs]; rfl
      obtain ⟨rfl, rfl⟩ := p0 (by omega)
      have e2 := hr2 (by unfold seO; rw [hs]; rfl)
      subst e2
      rw [hprt, sc2b aR aV a1, T (by omega)]
      show mkB N (srt (k : Int)) _ _ = _
      rw [hs]
      show ((k : Int), ((regO (regT rd)).1, ((regO (regT r1)).1, (0, ((numO (Lib.itoa v)).1, (aq, (rl, (0, 0)))))))) = _
      rw [q0, q1, qv]; rfl
    · have hprt : prt k rd r1 r2 v p s = [regT r2, Lib.itoa v ++ [40] ++ regT r1 ++ [41]] := by unfold prt; rw [hs]; rfl
      obtain ⟨rfl, rfl⟩ := p0 (by omega)
      have e0 := hrd (by unfold wrO; rw [hs]; rfl)
      subst e0
      rw [hprt, sc2b a2 aV a1, T (by omega)]
      show mkB N (srt (k : Int)) _ _ = _
      rw [hs]
      show ((k : Int), (0, ((regO (regT r1)).1, ((regO (regT r2)).1, ((numO (Lib.itoa v)).1, (aq, (rl, (0, 0)))))))) = _
      rw [q1, q2, qv]; rfl
    · have hprt : prt k rd r1 r2 v p s = [regT rd, regT r1, Lib.itoa v] := by unfold prt; rw [hs]; rfl
      obtain ⟨rfl, rfl⟩ := p0 (by omega)
      have e2 := hr2 (by unfold seO; rw [hs]; rfl)
      subst e2
      rw [hprt, sc3 aR a1 aV, T (by omega)]
      show mkB N (srt (k : Int)) _ _ = _
      rw [hs]
      show ((k : Int), ((regO (regT rd)).1, ((regO (regT r1)).1, (0, ((numO (Lib.itoa v)).1, (aq, (rl, (0, 0)))))))) = _
      rw [q0, q1, qv]; rfl
    · have hprt : prt k rd r1 r2 v p s = [regT rd, regT r1, regT r2] := by unfold prt; rw [hs]; rfl
      obtain ⟨rfl, rfl⟩ := p0 (by omega)
      have ev := hv7 (by omega)
      subst ev
      rw [hprt, sc3 aR a1 a2, T (by omega)]
      show mkB N (srt (k : Int)) _ _ = _
      rw [hs]
      show ((k : Int), ((regO (regT rd)).1, ((regO (regT r1)).1, ((regO (regT r2)).1, (0, (aq, (rl, (0, 0)))))))) = _
      rw [q0, q1, q2]; rfl
    · have h50 : (k : Int) = 50 := by
        by_cases h50 : (k : Int) = 50
        · exact h50
        · exact absurd (by unfold prt; rw [hs, decide_eq_false h50]; rfl) hp
      have hk : k = 50 := by omega
      subst hk
      have hprt : prt 50 rd r1 r2 v p s = [setT p, setT s] := rfl
      have e0 := hrd rfl
      have e1 := hr1 rfl
      have e2 := hr2 rfl
      have ev := hv7 (by omega)
      subst e0 e1 e2 ev
      rw [hprt, sc2 aP aS]
      show (((50 : Nat) : Int), (0, (0, (0, (0, (aq, (rl, ((F103 N (setT p)).getD 0, (F103 N (setT s)).getD 0)))))))) = _
      rw [qp, qs]; rfl
    · exact absurd (by unfold prt; rw [hs]; rfl) hp
    · have hprt : prt k rd r1 r2 v p s = [regT rd, [40] ++ regT r1 ++ [41]] := by unfold prt; rw [hs]; rfl
      obtain ⟨rfl, rfl⟩ := p0 (by omega)
      have e2 := hr2 (by unfold seO; rw [hs]; rfl)
      have ev := hv7 (by omega)
      subst e2 ev
      rw [hprt, sc2o aR a1, T (by omega)]
      show mkB N (srt (k : Int)) _ _ = _
      rw [hs]
      show ((k : Int), ((regO (regT rd)).1, ((regO (regT r1)).1, (0, (0, (aq, (rl, (0, 0)))))))) = _
      rw [q0, q1]; rfl
    · have hprt : prt k rd r1 r2 v p s = [regT rd, regT r2, [40] ++ regT r1 ++ [41]] := by unfold prt; rw [hs]; rfl
      obtain ⟨rfl, rfl⟩ := p0 (by omega)
      have ev := hv7 (by omega)
      subst ev
      rw [hprt, sc3o aR a2 a1, T (by omega)]
      show mkB N (srt (k : Int)) _ _ = _
      rw [hs]
      show ((k : Int), ((regO (regT rd)).1, ((regO (regT r1)).1, ((regO (regT r2)).1, (0, (aq, (rl, (0, 0)))))))) = _
      rw [q0, q1, q2]; rfl
    · have hprt : prt k rd r1 r2 v p s = [regT rd, regT r2, [40] ++ regT r1 ++ [41]] := by unfold prt; rw [hs]; rfl
      obtain ⟨rfl, rfl⟩ := p0 (by omega)
      have ev := hv7 (by omega)
      subst ev
      rw [hprt, sc3o aR a2 a1, T (by omega)]
      show mkB N (srt (k : Int)) _ _ = _
      rw [hs]
      show ((k : Int), ((regO (regT rd)).1, ((regO (regT r1)).1, ((regO (regT r2)).1, (0, (aq, (rl, (0, 0)))))))) = _
      rw [q0, q1, q2]; rfl
end Go.Proofs.YtkcfkegkhopakaaGreatDoor
