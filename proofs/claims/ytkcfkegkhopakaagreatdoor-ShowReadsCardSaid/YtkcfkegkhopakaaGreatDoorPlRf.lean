/- The document's candidates. No condition beyond a text's length. -/
import Derived.Test.YtkcfkegkhopakaaGreatDoorPlRe
namespace Go.Proofs.YtkcfkegkhopakaaGreatDoor
open Go Go.Ev Go.Sh
set_option linter.unusedVariables false
set_option linter.unusedSimpArgs false
set_option maxRecDepth 100000


theorem bits_t {N : Nat} {s : List UInt8} (hs : s.length ≤ 900) (hN : 1002 ≤ N) : ∃ v, F54 N s = some v := by
  unfold F54
  refine fixN_ind (fun m (y : Int × Int) => ∃ i : Nat, y.2 = (i : Int) ∧ i + m = s.length) (fun _ o => ∃ v, o = some v) ?_ N s.length _ (by omega) ⟨0, rfl, by omega⟩
  rintro m ⟨a, y⟩ again ⟨i, hy, hi⟩ ih
  simp only at hy
  subst hy
  simp only [jp_eq]
  rcases Nat.eq_zero_or_pos m with h0 | h0
  · rw [brF (by omega)]; exact ⟨_, rfl⟩
  · have w1 : IntKind.i64.wrap ((i : Int) + 1) = ((i + 1 : Nat) : Int) := by rw [wrap64 (by omega) (by omega)]; omega
    have go : ∀ z : Int, ∃ v, again (z, ((i + 1 : Nat) : Int)) = some v := fun z => ih (m - 1) _ (by omega) ⟨i + 1, rfl, by omega⟩
    rw [brT (by omega), chk_true (by rw [Bool.and_eq_true]; exact ⟨decide_eq_true (by omega), decide_eq_true (by omega)⟩), w1]
    have br2 : ∀ (b : Bool) (A B : Option Int), (∃ v, A = some v) → (∃ v, B = some v) → ∃ v, br b A B = some v := by
      intro b A B h1 h2
      cases b
      · exact h2
      · exact h1
    exact br2 _ _ _ (go _) (br2 _ _ _ (go _) (br2 _ _ _ (go _) (br2 _ _ _ (go _) (go _))))
noncomputable def chkW (N p : Nat) : Bool := F54 N (setT p) == some (bif Nat.beq p 0 then 0 else (p : Int))
theorem chkW_all (M : Nat) : ((List.range 16).all fun p => chkW (M + 100) p) = true := by kernel_rfl
theorem bits_is {N : Nat} (hN : 100 ≤ N) {p : Nat} (h : p < 16) : F54 N (setT p) = some (p : Int) := by
  obtain ⟨M, rfl⟩ : ∃ M, N = M + 100 := ⟨N - 100, by omega⟩
  have := List.all_eq_true.1 (chkW_all M) p (List.mem_range.2 h)
  simp only [chkW, beq_iff_eq] at this
  rw [this]
  cases p <;> rfl

/-- one word more -/
noncomputable def stp (N : Nat) (op sv n : Int) (wd : List UInt8) (st : Int × Int × Ins) : Int × Int × Ins :=
  let b := (F54 N wd).getD 0
  let R := st.1 + 1
  let M := st.2.1 + 1
  let i := st.2.2
  let i1 : Ins := bif decide (op = 50) && decide (n = 1) then (i.1, (i.2.1, (i.2.2.1, (i.2.2.2.1, (i.2.2.2.2.1, (i.2.2.2.2.2.1, (i.2.2.2.2.2.2.1, (b, i.2.2.2.2.2.2.2.2)))))))) else i
  let i2 : Ins := bif decide (op = 50) && decide (n = 2) then (i1.1, (i1.2.1, (i1.2.2.1, (i1.2.2.2.1, (i1.2.2.2.2.1, (i1.2.2.2.2.2.1, (i1.2.2.2.2.2.2.1, (i1.2.2.2.2.2.2.2.1, b)))))))) else i1
  let r := (regO wd).1
  let i3 : Ins := bif (regO wd).2 then (bif (decide (R = 1) && decide (sv = 3)) || ((decide (R = 2) && (decide (op = 4) || (decide (sv = 4) || (decide (sv = 5) || (decide (sv = 6) || (decide (sv = 7) || decide (sv = 10))))))) || (decide (R = 3) && decide (10 < sv))) then (i2.1, (i2.2.1, (r, i2.2.2.2))) else
    bif (decide (R = 1) && decide (sv = 5)) || ((decide (R = 2) && (decide (sv = 3) || decide (10 < sv))) || (decide (R = 3) && decide (sv = 7))) then (i2.1, (i2.2.1, (i2.2.2.1, (r, i2.2.2.2.2)))) else
    bif decide (R = 1) then (i2.1, (r, i2.2.2)) else i2) else i2
  let i4 : Ins := bif (numO wd).2 && !decide (op = 50) then (bif decide (M = 1) then (i3.1, (i3.2.1, (i3.2.2.1, (i3.2.2.2.1, ((numO wd).1, i3.2.2.2.2.2))))) else i3) else i3
  (bif (regO wd).2 then R else st.1, (bif (numO wd).2 && !decide (op = 50) then M else st.2.1, i4))
/-- the words behind the first, one behind the other -/
noncomputable def fol (N : Nat) (op sv : Int) : Nat → List (List UInt8) → Int × Int × Ins → Int × Int × Ins
  | _, [], st => st
  | n, wd :: r, st => fol N op sv (n + 1) r (stp N op sv (n : Int) wd st)

theorem stp_cnt (N : Nat) (op sv n : Int) (wd : List UInt8) (st : Int × Int × Ins) : (stp N op sv n wd st).1 ≤ st.1 + 1 ∧ st.1 ≤ (stp N op sv n wd st).1 ∧ (stp N op sv n wd st).2.1 ≤ st.2.1 + 1 ∧ st.2.1 ≤ (stp N op sv n wd st).2.1 := by
  unfold stp
  simp only
  cases (regO wd).2 <;> cases ((numO wd).2 && !decide (op = 50)) <;> simp only [cond_true, cond_false] <;> omega

theorem cand_loop {ρ : Type} {N : Nat} (hN : 1002 ≤ N) {W : List (List UInt8)} (hW : W.length ≤ 901) (hm : ∀ x ∈ W, x.length ≤ 900) (op sv : Int) (y6 : Ins) (G : Int × Int × Int × Ins → Option ρ) :
    fixN N (fun again7 (y8 : Int × Int × Int × Ins) => br (decide (y8.2.2.1 < (↑W.length : Int)))
      (jp (fun (y9 : Int × Int × Ins) => again7 ((y9.1, (y9.2.1, (IntKind.i64.wrap (y8.2.2.1 + 1), y9.2.2)))))
      (fun K10 => chk (decide (0 ≤ y8.2.2.1) && decide (y8.2.2.1 < (↑W.length : Int))) (bindS (F52 N ((W.getD y8.2.2.1.toNat []))) (fun (y11 : Int × Bool) => chk (decide (0 ≤ y8.2.2.1) && decide (y8.2.2.1 < (↑W.length : Int))) (bindS (F53 N ((W.getD y8.2.2.1.toNat []))) (fun (y12 : Int × Bool) => jp (fun (y13 : Ins) => jp (fun (y14 : Ins) => jp (fun (y15 : Int × Ins) => jp (fun (y16 : Bool) => br y16
      (br (decide (IntKind.i64.wrap (y8.2.1 + 1) = 1))
      (K10 ((y15.1, (IntKind.i64.wrap (y8.2.1 + 1), (y15.2.1, (y15.2.2.1, (y15.2.2.2.1, (y15.2.2.2.2.1, (y12.1, y15.2.2.2.2.2.2)))))))))
      (K10 ((y15.1, (IntKind.i64.wrap (y8.2.1 + 1), y15.2)))))
      (K10 ((y15.1, (y8.2.1, y15.2)))))
      (fun K17 => br y12.2
      (K17 (!decide (op = 50)))
      (K17 false)))
      (fun K18 => br y11.2
      (jp (fun (y19 : Ins) => K18 ((IntKind.i64.wrap (y8.1 + 1), y19)))
      (fun K20 => jp (fun (y21 : Bool) => br y21
      (K20 ((y14.1, (y14.2.1, (y11.1, y14.2.2.2)))))
      (jp (fun (y22 : Bool) => br y22
      (K20 ((y14.1, (y14.2.1, (y14.2.2.1, (y11.1, y14.2.2.2.2))))))
      (br (decide (IntKind.i64.wrap (y8.1 + 1) = 1))
      (K20 ((y14.1, (y11.1, y14.2.2))))
      (K20 y14)))
      (fun K23 => jp (fun (y24 : Bool) => br y24
      (K23 true)
      (jp (fun (y25 : Bool) => br y25
      (K23 true)
      (br (decide (IntKind.i64.wrap (y8.1 + 1) = 3))
      (K23 (decide (sv = 7)))
      (K23 false)))
      (fun K26 => br (decide (IntKind.i64.wrap (y8.1 + 1) = 2))
      (br (decide (sv = 3))
      (K26 true)
      (K26 (decide (10 < sv))))
      (K26 false))))
      (fun K27 => br (decide (IntKind.i64.wrap (y8.1 + 1) = 1))
      (K27 (decide (sv = 5)))
      (K27 false)))))
      (fun K28 => jp (fun (y29 : Bool) => br y29
      (K28 true)
      (jp (fun (y30 : Bool) => br y30
      (K28 true)
      (br (decide (IntKind.i64.wrap (y8.1 + 1) = 3))
      (K28 (decide (10 < sv)))
      (K28 false)))
      (fun K31 => br (decide (IntKind.i64.wrap (y8.1 + 1) = 2))
      (br (decide (op = 4))
      (K31 true)
      (br (decide (sv = 4))
      (K31 true)
      (br (decide (sv = 5))
      (K31 true)
      (br (decide (sv = 6))
      (K31 true)
      (br (decide (sv = 7))
      (K31 true)
      (K31 (decide (sv = 10))))))))
      (K31 false))))
      (fun K32 => br (decide (IntKind.i64.wrap (y8.1 + 1) = 1))
      (K32 (decide (sv = 3)))
      (K32 false)))))
      (K18 ((y8.1, y14)))))
      (fun K33 => jp (fun (y34 : Bool) => br y34
      (chk (decide (0 ≤ y8.2.2.1) && decide (y8.2.2.1 < (↑W.length : Int))) (bindS (F54 N ((W.getD y8.2.2.1.toNat []))) (fun (y35 : Int) => K33 ((y13.1, (y13.2.1, (y13.2.2.1, (y13.2.2.2.1, (y13.2.2.2.2.1, (y13.2.2.2.2.2.1, (y13.2.2.2.2.2.2.1, (y13.2.2.2.2.2.2.2.1, y35))))))))))))
      (K33 y13))
      (fun K36 => br (decide (op = 50))
      (K36 (decide (y8.2.2.1 = 2)))
      (K36 false))))
      (fun K37 => jp (fun (y38 : Bool) => br y38
      (chk (decide (0 ≤ y8.2.2.1) && decide (y8.2.2.1 < (↑W.length : Int))) (bindS (F54 N ((W.getD y8.2.2.1.toNat []))) (fun (y39 : Int) => K37 ((y8.2.2.2.1, (y8.2.2.2.2.1, (y8.2.2.2.2.2.1, (y8.2.2.2.2.2.2.1, (y8.2.2.2.2.2.2.2.1, (y8.2.2.2.2.2.2.2.2.1, (y8.2.2.2.2.2.2.2.2.2.1, (y39, y8.2.2.2.2.2.2.2.2.2.2.2))))))))))))
      (K37 y8.2.2.2))
      (fun K40 => br (decide (op = 50))
      (K40 (decide (y8.2.2.1 = 1)))
      (K40 false)))))))))
      (G y8)) (0, (0, (1, y6))) = G ((fol N op sv 1 (W.drop 1) (0, (0, y6))).1, ((fol N op sv 1 (W.drop 1) (0, (0, y6))).2.1, (((Nat.max 1 W.length : Nat) : Int), (fol N op sv 1 (W.drop 1) (0, (0, y6))).2.2))) := by
  refine fixN_ind (fun m (y : Int × Int × Int × Ins) => ∃ (n : Nat) (st : Int × Int × Ins), y = (st.1, (st.2.1, ((n : Int), st.2.2))) ∧ n + m = Nat.max 1 W.length ∧ 1 ≤ n ∧ 0 ≤ st.1 ∧ st.1 ≤ n ∧ 0 ≤ st.2.1 ∧ st.2.1 ≤ n ∧ fol N op sv n (W.drop n) st = fol N op sv 1 (W.drop 1) (0, (0, y6)))
    (fun _ o => o = G ((fol N op sv 1 (W.drop 1) (0, (0, y6))).1, ((fol N op sv 1 (W.drop 1) (0, (0, y6))).2.1, (((Nat.max 1 W.length : Nat) : Int), (fol N op sv 1 (W.drop 1) (0, (0, y6))).2.2)))) ?_ N (Nat.max 1 W.length - 1) _ (by have : Nat.max 1 W.length ≤ 901 := Nat.max_le.2 ⟨by omega, hW⟩; omega)
    ⟨1, (0, (0, y6)), rfl, by have : 1 ≤ Nat.max 1 W.length := Nat.le_max_left ..; omega, Nat.le_refl _, by show (0 : Int) ≤ 0; decide, by show (0 : Int) ≤ ((1 : Nat) : Int); decide, by show (0 : Int) ≤ 0; decide, by show (0 : Int) ≤ ((1 : Nat) : Int); decide, rfl⟩
  rintro m y again ⟨n, st, rfl, hi, h1, g1, g2, g3, g4, hf⟩ ih
  have hmx : Nat.max 1 W.length ≤ 901 := Nat.max_le.2 ⟨by omega, hW⟩
  have hmx2 : W.length ≤ Nat.max 1 W.length := Nat.le_max_right ..
  rcases Nat.eq_zero_or_pos m with h0 | h0
  · have e0 : W.drop n = [] := List.drop_eq_nil_of_le (by omega)
    simp only
    rw [brF (by omega)]
    rw [e0] at hf
    have hf' : st = fol N op sv 1 (W.drop 1) (0, (0, y6)) := hf
    rw [← hf', show n = Nat.max 1 W.length by omega]
  · have hlt : n < W.length := by
      rcases Nat.lt_or_ge n W.length with h | h
      · exact h
      · exfalso
        have : Nat.max 1 W.length ≤ n := Nat.max_le.2 ⟨h1, h⟩
        omega
    have hd := List.drop_eq_getElem_cons hlt
    rw [hd] at hf
    have hl := hm W[n] (List.getElem_mem hlt)
    have gW : W.getD n [] = W[n] := by rw [List.getD_eq_getElem?_getD, List.getElem?_eq_getElem hlt]; rfl
    have ck : (decide ((0 : Int) ≤ (n : Int)) && decide ((n : Int) < (W.length : Int))) = true := by rw [Bool.and_eq_true]; exact ⟨decide_eq_true (by omega), decide_eq_true (by omega)⟩
    have wn : IntKind.i64.wrap ((n : Int) + 1) = ((n + 1 : Nat) : Int) := by rw [wrap64 (by omega) (by omega)]; omega
    have wr : IntKind.i64.wrap (st.1 + 1) = st.1 + 1 := wrap64 (by omega) (by omega)
    have wm : IntKind.i64.wrap (st.2.1 + 1) = st.2.1 + 1 := wrap64 (by omega) (by omega)
    obtain ⟨bv, hb⟩ := bits_t (N := N) hl hN
    obtain ⟨c1, c2, c3, c4⟩ := stp_cnt N op sv (n : Int) W[n] st
    have nx := ih (m - 1) ((stp N op sv (n : Int) W[n] st).1, ((stp N op sv (n : Int) W[n] st).2.1, (((n + 1 : Nat) : Int), (stp N op sv (n : Int) W[n] st).2.2))) (by omega) ⟨n + 1, stp N op sv (n : Int) W[n] st, rfl, by omega, by omega, by omega, by omega, by omega, by omega, hf⟩
    refine Eq.trans ?_ nx
    clear nx ih hf c1 c2 c3 c4
    simp only
    rw [brT (by omega)]
    simp only [Int.toNat_natCast, gW, rRegister_is (N := N) (by omega) (show W[n].length ≤ 1000 by omega), rNumber_is (N := N) (by omega) (show W[n].length ≤ 1000 by omega), bindS_some, hb, chk_true ck, wn, wr, wm]
    unfold stp
    simp only [hb, Option.getD_some]
    generalize regO W[n] = rg
    generalize numO W[n] = nu
    obtain ⟨rv, rb⟩ := rg
    obtain ⟨nv, nb⟩ := nu
    simp only [br_and, br_or, jp_eq]
    generalize (decide (op = 50) && decide ((n : Int) = 1)) = q1
    generalize (decide (op = 50) && decide ((n : Int) = 2)) = q2
    generalize (decide (st.1 + 1 = 1) && decide (sv = 3) || (decide (st.1 + 1 = 2) && (decide (op = 4) || (decide (sv = 4) || (decide (sv = 5) || (decide (sv = 6) || (decide (sv = 7) || decide (sv = 10)))))) || decide (st.1 + 1 = 3) && decide (10 < sv))) = q3
    generalize (decide (st.1 + 1 = 1) && decide (sv = 5) || (decide (st.1 + 1 = 2) && (decide (sv = 3) || decide (10 < sv)) || decide (st.1 + 1 = 3) && decide (sv = 7))) = q4
    generalize decide (st.1 + 1 = 1) = q5
    generalize (nb && !decide (op = 50)) = q6
    generalize decide (st.2.1 + 1 = 1) = q7
    cases rb <;> cases q1 <;> cases q2 <;> cases q3 <;> cases q4 <;> cases q5 <;> cases q6 <;> cases q7 <;> rfl

end Go.Proofs.YtkcfkegkhopakaaGreatDoor
