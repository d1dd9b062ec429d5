/- The document's reading of a text is the program's; the law. No condition beyond a text's length. -/
import Derived.Test.YtkcfkegkhopakaaGreatDoorPlRf
namespace Go.Proofs.YtkcfkegkhopakaaGreatDoor
open Go Go.Ev Go.Sh
set_option linter.unusedVariables false
set_option linter.unusedSimpArgs false
set_option maxRecDepth 100000

/-! ### words of an instruction's text -/
def wat (a : List UInt8) : Prop := a ≠ [] ∧ ∀ c ∈ a, isW c = true
theorem dig_W {c : UInt8} (h : isD c) : isW c = true := by
  unfold isW
  obtain ⟨h1, h2⟩ := h
  rw [decide_eq_true (p := 48 ≤ (c.toNat : Int)) (by omega), decide_eq_true (p := (c.toNat : Int) ≤ 57) (by omega)]
  simp
theorem itoa_wat {v : Int} (hv : I64 v) : wat (Lib.itoa v) := by
  obtain ⟨neg, d, h1, h2, _, _⟩ := itoa_okd hv
  rw [h1]
  unfold sgn
  split
  · refine ⟨by simp, fun c hc => ?_⟩
    rw [List.mem_cons] at hc
    rcases hc with rfl | hc
    · decide
    · exact dig_W (h2.all c hc)
  · exact ⟨h2.ne, fun c hc => dig_W (h2.all c hc)⟩
theorem reg_wat {n : Nat} (h : n < 32) : wat (regT n) := by
  refine ⟨by simp [regT], fun c hc => ?_⟩
  unfold regT at hc
  rw [List.mem_cons] at hc
  rcases hc with rfl | hc
  · decide
  · exact (itoa_wat (nat_I64 h)).2 c hc
theorem set_wat {p : Nat} (h : p < 16) : wat (setT p) := by
  have : ((List.range 16).all fun p => !(setT p).isEmpty && (setT p).all isW) = true := by decide
  have := List.all_eq_true.1 this p (List.mem_range.2 h)
  simp only [Bool.and_eq_true, List.all_eq_true, Bool.not_eq_true'] at this
  exact ⟨fun e => by rw [e] at this; simp at this, this.2⟩
theorem nam_W : ((List.range 75).all fun i => !(nam (i + 1)).isEmpty && (nam (i + 1)).all isW) = true := by decide
theorem name_wat {k : Nat} (h1 : 1 ≤ k) (h : k ≤ 75) (aq rl : Bool) : wat (nam k ++ annT aq rl) := by
  have := List.all_eq_true.1 nam_W (k - 1) (List.mem_range.2 (by omega))
  rw [show k - 1 + 1 = k by omega] at this
  simp only [Bool.and_eq_true, List.all_eq_true, Bool.not_eq_true'] at this
  refine ⟨fun e => ?_, fun c hc => ?_⟩
  · have e2 := (List.append_eq_nil_iff.1 e).1
    rw [e2] at this
    simp at this
  · rw [List.mem_append] at hc
    rcases hc with hc | hc
    · exact this.2 c hc
    · revert c
      cases aq <;> cases rl <;> decide
theorem wC {a : List UInt8} (h : wat a) (r : List UInt8) : wrd [] (a ++ ([44, 32] ++ r)) = a :: wrd [] r := by
  rw [List.cons_append, wrd_sep h.1 h.2 (by decide), List.cons_append, List.nil_append, wrd_skip (by decide)]
theorem wO {a : List UInt8} (h : wat a) (r : List UInt8) : wrd [] (a ++ ([40] ++ r)) = a :: wrd [] r := by
  rw [List.cons_append, List.nil_append, wrd_sep h.1 h.2 (by decide)]
theorem wO0 (r : List UInt8) : wrd [] ([40] ++ r) = wrd [] r := by rw [List.cons_append, List.nil_append, wrd_skip (by decide)]
theorem wE {a : List UInt8} (h : wat a) : wrd [] (a ++ [41]) = [a] := by
  rw [wrd_sep h.1 h.2 (by decide)]; rfl
theorem wc3 {a b c : List UInt8} (ha : wat a) (hb : wat b) (hc : wat c) : wrd [] (Lib.join [a, b, c] [44, 32]) = [a, b, c] := by
  rw [join3, List.append_assoc, List.append_assoc, List.append_assoc, wC ha, wC hb, wrd_one hc.1 hc.2]
theorem wc2 {a b : List UInt8} (ha : wat a) (hb : wat b) : wrd [] (Lib.join [a, b] [44, 32]) = [a, b] := by
  rw [join2, List.append_assoc, wC ha, wrd_one hb.1 hb.2]
theorem wc2b {a b c : List UInt8} (ha : wat a) (hb : wat b) (hc : wat c) : wrd [] (Lib.join [a, b ++ [40] ++ c ++ [41]] [44, 32]) = [a, b, c] := by
  rw [join2, show a ++ [44, 32] ++ (b ++ [40] ++ c ++ [41]) = a ++ ([44, 32] ++ (b ++ ([40] ++ (c ++ [41])))) by simp only [List.append_assoc], wC ha, wO hb, wE hc]
theorem wc2o {a c : List UInt8} (ha : wat a) (hc : wat c) : wrd [] (Lib.join [a, [40] ++ c ++ [41]] [44, 32]) = [a, c] := by
  rw [join2, show a ++ [44, 32] ++ ([40] ++ c ++ [41]) = a ++ ([44, 32] ++ ([40] ++ (c ++ [41]))) by simp only [List.append_assoc], wC ha, wO0, wE hc]
theorem wc3o {a b c : List UInt8} (ha : wat a) (hb : wat b) (hc : wat c) : wrd [] (Lib.join [a, b, [40] ++ c ++ [41]] [44, 32]) = [a, b, c] := by
  rw [join3, show a ++ [44, 32] ++ b ++ [44, 32] ++ ([40] ++ c ++ [41]) = a ++ ([44, 32] ++ (b ++ ([44, 32] ++ ([40] ++ (c ++ [41]))))) by simp only [List.append_assoc], wC ha, wC hb, wO0, wE hc]

theorem regO_not {c : UInt8} {r : List UInt8} (h : c ≠ 120) : regO (c :: r) = (0, false) := by rw [regO_cons, if_neg (fun e => h e.1)]
theorem regO_itoa {v : Int} (hv : I64 v) : regO (Lib.itoa v) = (0, false) := by
  have h := itoa_wat hv
  cases hd : Lib.itoa v with
  | nil => rfl
  | cons c r =>
    refine regO_not fun e => ?_
    obtain ⟨neg, d, h1, h2, _, _⟩ := itoa_okd hv
    rw [hd] at h1
    subst e
    unfold sgn at h1
    split at h1
    · simp only [List.cons.injEq] at h1
      exact absurd h1.1 (by decide)
    · have := (h2.all 120 (by rw [← h1]; exact List.mem_cons_self ..)).2
      exact absurd this (by decide)
theorem regO_set {p : Nat} (h : p < 16) : regO (setT p) = (0, false) := by
  have : ((List.range 16).all fun p => match setT p with | [] => true | c :: _ => !(c == 120)) = true := by decide
  have := List.all_eq_true.1 this p (List.mem_range.2 h)
  revert this
  cases setT p with
  | nil => intro _; rfl
  | cons c r => intro h; exact regO_not (by simpa using h)
theorem numO_reg (n : Nat) : numO (regT n) = (0, false) := by
  refine num_not (neg := false) (d := regT n) (fun c r e => Or.inl ?_) (fun h => ?_)
  · unfold regT at e
    simp only [List.cons.injEq] at e
    rw [← e.1]; decide
  · have := (h.1.all 120 (by unfold regT; exact List.mem_cons_self ..)).2
    exact absurd this (by decide)

/-! ### candidates -/
def canY (op : Int) (a : Int) : Ins := bif decide (op = 51) then (op, (0, (0, (0, (0, (decide (a.tmod 2 = 1), (decide (1 < a), (3, 3)))))))) else (op, (0, (0, (0, (0, (decide (a.tmod 2 = 1), (decide (1 < a), (0, 0))))))))
noncomputable def canC (N : Nat) (W : List (List UInt8)) (op a : Int) : Ins := (fol N op (srt op) 1 (W.drop 1) (0, (0, canY op a))).2.2
theorem stp_inv (N : Nat) (op sv n : Int) (wd : List UInt8) (st : Int × Int × Ins) (h : I64 st.2.2.2.2.2.2.1) : (stp N op sv n wd st).2.2.1 = st.2.2.1 ∧ I64 (stp N op sv n wd st).2.2.2.2.2.2.1 := by
  have hn := numO_rng wd
  have L4 : ∀ (q6 q7 : Bool) (z : Ins), (z.1 = st.2.2.1 ∧ I64 z.2.2.2.2.1) → ((bif q6 then (bif q7 then ((z.1, (z.2.1, (z.2.2.1, (z.2.2.2.1, ((numO wd).1, z.2.2.2.2.2))))) : Ins) else z) else z).1 = st.2.2.1 ∧ I64 (bif q6 then (bif q7 then ((z.1, (z.2.1, (z.2.2.1, (z.2.2.2.1, ((numO wd).1, z.2.2.2.2.2))))) : Ins) else z) else z).2.2.2.2.1) := by
    intro q6 q7 z hz
    cases q6
    · exact hz
    · cases q7
      · exact hz
      · exact ⟨hz.1, hn⟩
  have L3 : ∀ (rb q3 q4 q5 : Bool) (r : Int) (z : Ins), (z.1 = st.2.2.1 ∧ I64 z.2.2.2.2.1) → ((bif rb then (bif q3 then ((z.1, (z.2.1, (r, z.2.2.2))) : Ins) else bif q4 then (z.1, (z.2.1, (z.2.2.1, (r, z.2.2.2.2)))) else bif q5 then (z.1, (r, z.2.2)) else z) else z).1 = st.2.2.1 ∧ I64 (bif rb then (bif q3 then ((z.1, (z.2.1, (r, z.2.2.2))) : Ins) else bif q4 then (z.1, (z.2.1, (z.2.2.1, (r, z.2.2.2.2)))) else bif q5 then (z.1, (r, z.2.2)) else z) else z).2.2.2.2.1) := by
    intro rb q3 q4 q5 r z hz
    cases rb
    · exact hz
    · cases q3
      · cases q4
        · cases q5
          · exact hz
          · exact hz
        · exact hz
      · exact hz
  have L2 : ∀ (q : Bool) (b : Int) (z : Ins), (z.1 = st.2.2.1 ∧ I64 z.2.2.2.2.1) → ((bif q then ((z.1, (z.2.1, (z.2.2.1, (z.2.2.2.1, (z.2.2.2.2.1, (z.2.2.2.2.2.1, (z.2.2.2.2.2.2.1, (z.2.2.2.2.2.2.2.1, b)))))))) : Ins) else z).1 = st.2.2.1 ∧ I64 (bif q then ((z.1, (z.2.1, (z.2.2.1, (z.2.2.2.1, (z.2.2.2.2.1, (z.2.2.2.2.2.1, (z.2.2.2.2.2.2.1, (z.2.2.2.2.2.2.2.1, b)))))))) : Ins) else z).2.2.2.2.1) := by
    intro q b z hz
    cases q <;> exact hz
  have L1 : ∀ (q : Bool) (b : Int) (z : Ins), (z.1 = st.2.2.1 ∧ I64 z.2.2.2.2.1) → ((bif q then ((z.1, (z.2.1, (z.2.2.1, (z.2.2.2.1, (z.2.2.2.2.1, (z.2.2.2.2.2.1, (z.2.2.2.2.2.2.1, (b, z.2.2.2.2.2.2.2.2)))))))) : Ins) else z).1 = st.2.2.1 ∧ I64 (bif q then ((z.1, (z.2.1, (z.2.2.1, (z.2.2.2.1, (z.2.2.2.2.1, (z.2.2.2.2.2.1, (z.2.2.2.2.2.2.1, (b, z.2.2.2.2.2.2.2.2)))))))) : Ins) else z).2.2.2.2.1) := by
    intro q b z hz
    cases q <;> exact hz
  exact L4 _ _ _ (L3 _ _ _ _ _ _ (L2 _ _ _ (L1 _ _ _ ⟨rfl, h⟩)))
theorem fol_inv (N : Nat) (op sv : Int) : ∀ (l : List (List UInt8)) (n : Nat) (st : Int × Int × Ins), I64 st.2.2.2.2.2.2.1 → (fol N op sv n l st).2.2.1 = st.2.2.1 ∧ I64 (fol N op sv n l st).2.2.2.2.2.2.1
  | [], n, st, h => ⟨rfl, h⟩
  | wd :: l, n, st, h => by
    obtain ⟨h1, h2⟩ := stp_inv N op sv (n : Int) wd st h
    obtain ⟨h3, h4⟩ := fol_inv N op sv l (n + 1) _ h2
    exact ⟨h3.trans h1, h4⟩
theorem can_inv (N : Nat) (W : List (List UInt8)) (op a : Int) : (canC N W op a).1 = op ∧ I64 (canC N W op a).2.2.2.2.1 := by
  have hy : (canY op a).1 = op ∧ I64 (canY op a).2.2.2.2.1 := by
    unfold canY
    cases decide (op = 51) <;> exact ⟨rfl, (⟨by decide, by decide⟩ : I64 0)⟩
  obtain ⟨h1, h2⟩ := fol_inv N op (srt op) (W.drop 1) 1 (0, (0, canY op a)) hy.2
  exact ⟨h1.trans hy.1, h2⟩

def aI (aq rl : Bool) : Nat := (bif aq then 1 else 0) + (bif rl then 2 else 0)
theorem canY_is (k : Nat) (aq rl : Bool) : canY k (aI aq rl : Nat) = bif decide ((k : Int) = 51) then ((k : Int), (0, (0, (0, (0, (aq, (rl, (3, 3)))))))) else ((k : Int), (0, (0, (0, (0, (aq, (rl, (0, 0)))))))) := by
  cases aq <;> cases rl <;> rfl

/-- at its own operation and annotations the candidate is the instruction -/
theorem can_is {N : Nat} (hN : 1002 ≤ N) {x : Ins} {k rd r1 r2 : Nat} {v : Int} {aq rl : Bool} {p s : Nat} (h : Rt x k rd r1 r2 v aq rl p s) (hv : I64 v) : canC N (wrd [] (txt k rd r1 r2 v aq rl p s)) k (aI aq rl : Nat) = x := by
  have hnm := name_wat h.k1 h.k2 aq rl
  have aR := reg_wat h.rd1
  have a1 := reg_wat h.r11
  have a2 := reg_wat h.r21
  have aV := itoa_wat hv
  have q0 := regO_is h.rd1
  have q1 := regO_is h.r11
  have q2 := regO_is h.r21
  have qv := num_itoa hv
  have m0 := numO_reg rd
  have m1 := numO_reg r1
  have m2 := numO_reg r2
  have mv := regO_itoa hv
  have g50 : decide ((k : Int) = 50) = true → srt k = 8 := by
    intro h
    rw [of_decide_eq_true h]; decide
  have g51 : decide ((k : Int) = 51) = true → srt k = 8 := by
    intro h
    rw [of_decide_eq_true h]; decide
  have k34 : srt k = 2 → (k : Int) = 3 ∨ (k : Int) = 4 := by
    intro hs
    have : ((List.range 75).all fun i => !decide (srt ((i + 1 : Nat) : Int) = 2) || (Nat.beq (i + 1) 3 || Nat.beq (i + 1) 4)) = true := by kernel_rfl
    have := List.all_eq_true.1 this (k - 1) (List.mem_range.2 (by have := h.k2; have := h.k1; omega))
    rw [show k - 1 + 1 = k by have := h.k1; omega, decide_eq_true hs] at this
    simp only [Bool.not_true, Bool.false_or, Bool.or_eq_true, Nat.beq_eq] at this
    omega
  have z0 : srt k ≠ 0 := by
    have : ((List.range 75).all fun i => !decide (srt ((i + 1 : Nat) : Int) = 0)) = true := by kernel_rfl
    have := List.all_eq_true.1 this (k - 1) (List.mem_range.2 (by have := h.k2; have := h.k1; omega))
    rw [show k - 1 + 1 = k by have := h.k1; omega] at this
    simpa using this
  have p0 : srt k ≠ 8 → p = 0 ∧ s = 0 := fun hs => h.pz (fun e => hs (by rw [e]; decide)) (fun e => hs (by rw [e]; decide))
  have n50 : srt k ≠ 8 → decide ((k : Int) = 50) = false := fun hs => by
    cases hb : decide ((k : Int) = 50) with
    | false => rfl
    | true => exact absurd (g50 hb) hs
  have n51 : srt k ≠ 8 → decide ((k : Int) = 51) = false := fun hs => by
    cases hb : decide ((k : Int) = 51) with
    | false => rfl
    | true => exact absurd (g51 hb) hs
  have n4 : srt k ≠ 2 → decide ((k : Int) = 4) = false := fun hs => decide_eq_false (fun e => hs (by rw [e]; decide))
  have hrd : wrO k = false → rd = 0 := h.wz
  have hr1 : fiO k = false → r1 = 0 := h.fz
  have hr2 : seO k = false → r2 = 0 := h.sz
  have hv7 : 7 ≤ srt k → v = 0 := fun hs => imm0 h.k1 h.k2 hs h.im
  rw [h.eq]
  unfold canC
  rw [canY_is]
  -- the words behind the name
  have ws : ∀ P : List (List UInt8), prt k rd r1 r2 v p s ≠ [] → wrd [] (Lib.join (prt k rd r1 r2 v p s) [44, 32]) = P → (wrd [] (txt k rd r1 r2 v aq rl p s)).drop 1 = P := by
    intro P hne hP
    unfold txt
    rw [if_neg hne, show nam k ++ annT aq rl ++ [32] ++ Lib.join (prt k rd r1 r2 v p s) [44, 32] = (nam k ++ annT aq rl) ++ 32 :: Lib.join (prt k rd r1 r2 v p s) [44, 32] by simp only [List.append_assoc, List.cons_append, List.nil_append], wrd_sep hnm.1 hnm.2 (by decide), hP]
    rfl
  have w0 : prt k rd r1 r2 v p s = [] → (wrd [] (txt k rd r1 r2 v aq rl p s)).drop 1 = [] := by
    intro e
    unfold txt
    rw [if_pos e, wrd_one hnm.1 hnm.2]
    rfl
  obtain hs | hs | hs | hs | hs | hs | hs | hs | hs | hs | hs | hs | hs := srt_cases k
  · exact absurd hs z0
  · have hprt : prt k rd r1 r2 v p s = [regT rd, Lib.itoa v] := by unfold prt; rw [hs]; rfl
    obtain ⟨rfl, rfl⟩ := p0 (by omega)
    have e1 := hr1 (by unfold fiO seO; rw [hs]; rfl)
    have e2 := hr2 (by unfold seO; rw [hs]; rfl)
    subst e1 e2
    rw [ws _ (by rw [hprt]; simp) (by rw [hprt, wc2 aR aV]), n51 (by omega), hs]
    simp only [fol, stp, q0, qv, m0, mv, n50 (by omega), n4 (by omega)]
    rfl
  · obtain ⟨rfl, rfl⟩ := p0 (by omega)
    have e2 := hr2 (by unfold seO; rw [hs]; rfl)
    subst e2
    rcases k34 hs with h3 | h4
    · have hk : k = 3 := by omega
      subst hk
      have hprt : prt 3 rd r1 0 v 0 0 = [regT rd, Lib.itoa v] := rfl
      have e1 := hr1 rfl
      subst e1
      rw [ws _ (by rw [hprt]; simp) (by rw [hprt, wc2 aR aV]), n51 (by omega), hs]
      simp only [fol, stp, q0, qv, m0, mv]
      rfl
    · have hk : k = 4 := by omega
      subst hk
      have hprt : prt 4 rd r1 0 v 0 0 = [regT rd, regT r1, Lib.itoa v] := rfl
      rw [ws _ (by rw [hprt]; simp) (by rw [hprt, wc3 aR a1 aV]), n51 (by omega), hs]
      simp only [fol, stp, q0, q1, qv, m0, m1, mv]
      rfl
  · have hprt : prt k rd r1 r2 v p s = [regT r1, regT r2, Lib.itoa v] := by unfold prt; rw [hs]; rfl
    obtain ⟨rfl, rfl⟩ := p0 (by omega)
    have e0 := hrd (by unfold wrO; rw [hs]; rfl)
    subst e0
    rw [ws _ (by rw [hprt]; simp) (by rw [hprt, wc3 a1 a2 aV]), n51 (by omega), hs]
    simp only [fol, stp, q1, q2, qv, m1, m2, mv, n50 (by omega), n4 (by omega)]
    rfl
  · have hprt : prt k rd r1 r2 v p s = [regT rd, Lib.itoa v ++ [40] ++ regT r1 ++ [41]] := by unfold prt; rw [hs]; rfl
    obtain ⟨rfl, rfl⟩ := p0 (by omega)
    have e2 := hr2 (by unfold seO; rw [hs]; rfl)
    subst e2
    rw [ws _ (by rw [hprt]; simp) (by rw [hprt, wc2b aR aV a1]), n51 (by omega), hs]
    simp only [fol, stp, q0, q1, qv, m0, m1, mv, n50 (by omega), n4 (by omega)]
    rfl
  · have hprt : prt k rd r1 r2 v p s = [regT r2, Lib.itoa v ++ [40] ++ regT r1 ++ [41]] := by unfold prt; rw [hs]; rfl
    obtain ⟨rfl, rfl⟩ := p0 (by omega)
    have e0 := hrd (by unfold wrO; rw [hs]; rfl)
    subst e0
    rw [ws _ (by rw [hprt]; simp) (by rw [hprt, wc2b a2 aV a1]), n51 (by omega), hs]
    simp only [fol, stp, q1, q2, qv, m1, m2, mv, n50 (by omega), n4 (by omega)]
    rfl
  · have hprt : prt k rd r1 r2 v p s = [regT rd, regT r1, Lib.itoa v] := by unfold prt; rw [hs]; rfl
    obtain ⟨rfl, rfl⟩ := p0 (by omega)
    have e2 := hr2 (by unfold seO; rw [hs]; rfl)
    subst e2
    rw [ws _ (by rw [hprt]; simp) (by rw [hprt, wc3 aR a1 aV]), n51 (by omega), hs]
    simp only [fol, stp, q0, q1, qv, m0, m1, mv, n50 (by omega), n4 (by omega)]
    rfl
  · have hprt : prt k rd r1 r2 v p s = [regT rd, regT r1, regT r2] := by unfold prt; rw [hs]; rfl
    obtain ⟨rfl, rfl⟩ := p0 (by omega)
    have ev := hv7 (by omega)
    subst ev
    rw [ws _ (by rw [hprt]; simp) (by rw [hprt, wc3 aR a1 a2]), n51 (by omega), hs]
    simp only [fol, stp, q0, q1, q2, m0, m1, m2, n50 (by omega), n4 (by omega)]
    rfl
  · have e0 := hrd (by unfold wrO; rw [hs]; rfl)
    have e1 := hr1 (by unfold fiO seO; rw [hs]; rfl)
    have e2 := hr2 (by unfold seO; rw [hs]; rfl)
    have ev := hv7 (by omega)
    subst e0 e1 e2 ev
    by_cases h50 : (k : Int) = 50
    · have hk : k = 50 := by omega
      subst hk
      have hprt : prt 50 0 0 0 0 p s = [setT p, setT s] := rfl
      have bp := bits_is (N := N) (by omega) h.ps.1
      have bs := bits_is (N := N) (by omega) h.ps.2
      have rp := regO_set h.ps.1
      have rs := regO_set h.ps.2
      rw [ws _ (by rw [hprt]; simp) (by rw [hprt, wc2 (set_wat h.ps.1) (set_wat h.ps.2)]), hs]
      simp only [fol, stp, rp, rs, bp, bs, Option.getD_some, show decide (((50 : Nat) : Int) = 50) = true from rfl, Bool.not_true, Bool.and_false]
      rfl
    · have hprt : prt k 0 0 0 0 p s = [] := by unfold prt; rw [hs, decide_eq_false h50]; rfl
      rw [w0 hprt]
      cases hb : decide ((k : Int) = 51) with
      | true =>
        have := of_decide_eq_true hb
        obtain ⟨rfl, rfl⟩ := h.p3 (by omega)
        rfl
      | false =>
        have := of_decide_eq_false hb
        obtain ⟨rfl, rfl⟩ := h.pz (by omega) (by omega)
        rfl
  · have hprt : prt k rd r1 r2 v p s = [] := by unfold prt; rw [hs]; rfl
    obtain ⟨rfl, rfl⟩ := p0 (by omega)
    have e0 := hrd (by unfold wrO; rw [hs]; rfl)
    have e1 := hr1 (by unfold fiO seO; rw [hs]; rfl)
    have e2 := hr2 (by unfold seO; rw [hs]; rfl)
    have ev := hv7 (by omega)
    subst e0 e1 e2 ev
    rw [w0 hprt, n51 (by omega)]
    rfl
  · have hprt : prt k rd r1 r2 v p s = [regT rd, [40] ++ regT r1 ++ [41]] := by unfold prt; rw [hs]; rfl
    obtain ⟨rfl, rfl⟩ := p0 (by omega)
    have e2 := hr2 (by unfold seO; rw [hs]; rfl)
    have ev := hv7 (by omega)
    subst e2 ev
    rw [ws _ (by rw [hprt]; simp) (by rw [hprt, wc2o aR a1]), n51 (by omega), hs]
    simp only [fol, stp, q0, q1, m0, m1, n50 (by omega), n4 (by omega)]
    rfl
  · have hprt : prt k rd r1 r2 v p s = [regT rd, regT r2, [40] ++ regT r1 ++ [41]] := by unfold prt; rw [hs]; rfl
    obtain ⟨rfl, rfl⟩ := p0 (by omega)
    have ev := hv7 (by omega)
    subst ev
    rw [ws _ (by rw [hprt]; simp) (by rw [hprt, wc3o aR a2 a1]), n51 (by omega), hs]
    simp only [fol, stp, q0, q1, q2, m0, m1, m2, n50 (by omega), n4 (by omega)]
    rfl
  · have hprt : prt k rd r1 r2 v p s = [regT rd, regT r2, [40] ++ regT r1 ++ [41]] := by unfold prt; rw [hs]; rfl
    obtain ⟨rfl, rfl⟩ := p0 (by omega)
    have ev := hv7 (by omega)
    subst ev
    rw [ws _ (by rw [hprt]; simp) (by rw [hprt, wc3o aR a2 a1]), n51 (by omega), hs]
    simp only [fol, stp, q0, q1, q2, m0, m1, m2, n50 (by omega), n4 (by omega)]
    rfl
end Go.Proofs.YtkcfkegkhopakaaGreatDoor
