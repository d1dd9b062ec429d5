/- The plain law of programs: the bytes of lists of instructions, and the instructions of bytes. No condition. -/
import Derived.Test.YtkcfkegkhopakaaPlBy
namespace Go.Proofs.Ytkcfkegkhopakaa
open Go Go.Ev Go.Sh
set_option linter.unusedVariables false
set_option linter.unusedSimpArgs false
set_option maxRecDepth 100000

theorem lstI_drop (b : List Int) (i : Nat) (h : i + 4 ≤ b.length) : lstI (b.drop i) = decI ((b.getD i 0) + 256 * (b.getD (i + 1) 0) + 65536 * (b.getD (i + 2) 0) + 16777216 * (b.getD (i + 3) 0)).toNat :: lstI (b.drop (i + 4)) := by
  have g : ∀ j, j < b.length → b.getD j 0 = b[j]! := fun j hj => by rw [List.getD_eq_getElem?_getD, List.getElem?_eq_getElem hj, Option.getD_some, getElem!_pos b j hj]
  have e : ∀ j (hj : j < b.length), b.drop j = b.getD j 0 :: b.drop (j + 1) := fun j hj => by rw [List.drop_eq_getElem_cons hj, List.getD_eq_getElem?_getD, List.getElem?_eq_getElem hj, Option.getD_some]
  rw [e i (by omega), e (i + 1) (by omega), e (i + 2) (by omega), e (i + 3) (by omega)]
  rfl

theorem lstI_short (b : List Int) (h : b.length < 4) : lstI b = [] := by
  match b, h with
  | [], _ => rfl
  | [_], _ => rfl
  | [_, _], _ => rfl
  | [_, _, _], _ => rfl
  | _ :: _ :: _ :: _ :: _, h => simp only [List.length_cons] at h; omega

theorem rList_is {N : Nat} (hN : 100 ≤ N) (b : List Int) (hl : b.length / 4 < N) (hb : b.length < 1000000) (hby : ∀ x ∈ b, isBy x) : F17 N b = some (lstI b) := by
  unfold F17
  refine fixN_ind (fun m (y : Int × List Ins) => ∃ i : Nat, y.1 = ((4 * i : Nat) : Int) ∧ i + m = b.length / 4 ∧ y.2 ++ lstI (b.drop (4 * i)) = lstI b ∧ y.2.length = i) (fun _ o => o = some (lstI b)) ?_ N (b.length / 4) _ hl ⟨0, rfl, by omega, by simp, rfl⟩
  rintro m ⟨y, out⟩ again ⟨i, hy, h1, h2, h3⟩ ih
  simp only at hy h2 h3
  subst hy
  have hw : ∀ j : Nat, j < 10 → IntKind.i64.wrap (((4 * i : Nat) : Int) + (j : Int)) = ((4 * i + j : Nat) : Int) := fun j hj => by rw [wrap64 (by omega) (by omega)]; omega
  have w1 := hw 1 (by decide)
  have w2 := hw 2 (by decide)
  have w3 := hw 3 (by decide)
  have w4 := hw 4 (by decide)
  simp only [show ((1 : Nat) : Int) = 1 from rfl] at w1
  simp only [show ((2 : Nat) : Int) = 2 from rfl] at w2
  simp only [show ((3 : Nat) : Int) = 3 from rfl] at w3
  simp only [show ((4 : Nat) : Int) = 4 from rfl] at w4
  simp only [w1, w2, w3, w4]
  rcases Nat.eq_zero_or_pos m with h0 | h0
  · subst h0
    rw [brF (by omega), ← h2, lstI_short _ (by rw [List.length_drop]; omega), List.append_nil]
  · have hlt : 4 * i + 4 ≤ b.length := by omega
    have gb : ∀ j, j < b.length → ∃ n : Nat, n < 256 ∧ b.getD j 0 = n := fun j hj => by
      rw [List.getD_eq_getElem?_getD, List.getElem?_eq_getElem hj, Option.getD_some]
      exact by_nat (hby _ (List.getElem_mem hj))
    obtain ⟨a, ha, ea⟩ := gb (4 * i) (by omega)
    obtain ⟨c, hc, ec⟩ := gb (4 * i + 1) (by omega)
    obtain ⟨d, hd, ed⟩ := gb (4 * i + 2) (by omega)
    obtain ⟨e, he, ee⟩ := gb (4 * i + 3) (by omega)
    have key := lstI_drop b (4 * i) hlt
    rw [ea, ec, ed, ee] at key
    have hwd : IntKind.u32.wrap (IntKind.u32.wrap (IntKind.u32.wrap (IntKind.u32.wrap (a : Int) + IntKind.u32.wrap (256 * IntKind.u32.wrap (c : Int))) + IntKind.u32.wrap (65536 * IntKind.u32.wrap (d : Int))) + IntKind.u32.wrap (16777216 * IntKind.u32.wrap (e : Int))) = ((a + 256 * c + 65536 * d + 16777216 * e : Nat) : Int) := by
      simp only [u32_wrap_eq]; omega
    rw [brT (by omega), chk_true (by simp; omega), chk_true (by simp; omega), chk_true (by simp; omega), chk_true (by simp; omega)]
    simp only [Int.toNat_natCast, ea, ec, ed, ee]
    rw [hwd, rDecode_is hN (by omega), bindS_some, chkT (by simp only [List.length_cons, List.length_nil, lim]; omega)]
    refine ih (m - 1) _ (by omega) ⟨i + 1, by simp only; omega, by omega, ?_, by simp [h3]⟩
    have et : ((a : Int) + 256 * (c : Int) + 65536 * (d : Int) + 16777216 * (e : Int)).toNat = a + 256 * c + 65536 * d + 16777216 * e := by omega
    rw [et] at key
    rw [← h2, key, show 4 * (i + 1) = 4 * i + 4 by omega]
    simp only [List.append_assoc, List.singleton_append]
    congr 2
    unfold decI
    split <;> rfl

/-! ### programs -/
noncomputable def wordX (x : Ins) : Nat := wordN x.1.toNat x.2.1.toNat x.2.2.1.toNat x.2.2.2.1.toNat x.2.2.2.2.1 x.2.2.2.2.2.1 x.2.2.2.2.2.2.1 x.2.2.2.2.2.2.2.1.toNat x.2.2.2.2.2.2.2.2.toNat

theorem wordX_is {x : Ins} {k rd r1 r2 : Nat} {v : Int} {aq rl : Bool} {p s : Nat} (h : Rt x k rd r1 r2 v aq rl p s) : wordX x = wordN k rd r1 r2 v aq rl p s := by
  rw [h.eq]; rfl

structure RtX (N : Nat) (x : Ins) : Prop where
  enc : F8 N x = some ((wordX x : Int), 0)
  ref : F11 N x = some (wordX x : Int)
  lt : wordX x < 4294967296
  dec : decI (wordX x) = x

theorem rtX {N : Nat} (hN : 100 ≤ N) {x : Ins} (hv : I64 x.2.2.2.2.1) (hr : rightB x = true) : RtX N x := by
  obtain ⟨k, rd, r1, r2, v, aq, rl, p, s, h⟩ := right_rt hr
  have hv' : I64 v := by have := hv; rw [h.eq] at this; exact this
  have hw := wordX_is h
  obtain ⟨e1, e2⟩ := Encode_right hN h hv' hr
  obtain ⟨i1, i2, i3⟩ := ins_word h
  have hk := h.k1
  refine ⟨by rw [hw]; exact e1, by rw [hw]; exact rWord_is hN h, by rw [hw]; exact e2, ?_⟩
  rw [hw]
  unfold decI
  rw [i2, if_neg (by omega), i3]

noncomputable def bytX (l : List Ins) : List Int := l.flatMap fun x => byt4 (wordX x)

theorem bytX_len (l : List Ins) : (bytX l).length = 4 * l.length := by
  unfold bytX
  induction l with
  | nil => rfl
  | cons x l ih => rw [List.flatMap_cons, List.length_append, ih]; simp [byt4]; omega

theorem byt4_by (w : Nat) : ∀ x ∈ byt4 w, isBy x := by
  intro x hx
  unfold byt4 at hx
  simp only [List.mem_cons, List.not_mem_nil, or_false] at hx
  unfold isBy
  rcases hx with rfl | rfl | rfl | rfl <;> omega

theorem bytX_by (l : List Ins) : ∀ x ∈ bytX l, isBy x := by
  intro x hx
  obtain ⟨y, _, hy⟩ := List.mem_flatMap.1 hx
  exact byt4_by _ x hy

theorem lstI_bytX : ∀ l : List Ins, (∀ x ∈ l, RtX 100 x) → lstI (bytX l) = l
  | [], _ => rfl
  | x :: l, h => by
    have hx := h x List.mem_cons_self
    have ih := lstI_bytX l fun y hy => h y (List.mem_cons_of_mem _ hy)
    have hl := hx.lt
    unfold bytX at ih ⊢
    rw [List.flatMap_cons]
    show lstI (_ :: _ :: _ :: _ :: l.flatMap fun x => byt4 (wordX x)) = _
    rw [lstI, ih]
    have e : (((wordX x % 256 : Nat) : Int) + 256 * ((wordX x / 256 % 256 : Nat) : Int) + 65536 * ((wordX x / 65536 % 256 : Nat) : Int) + 16777216 * ((wordX x / 16777216 % 256 : Nat) : Int)).toNat = wordX x := by omega
    rw [e, hx.dec]

theorem getD_mem (l : List Ins) (i : Nat) (h : i < l.length) (d : Ins) : l.getD i d = l[i] := by
  rw [List.getD_eq_getElem?_getD, List.getElem?_eq_getElem h, Option.getD_some]

theorem Program_is {N : Nat} (hN : 100 ≤ N) (l : List Ins) (hl : l.length ≤ 1000) (hLN : 1000 < N) (hv : ∀ x ∈ l, I64 x.2.2.2.2.1) :
    F13 N l = some (if l.all rightB then (0, bytX l) else (1, [])) := by
  unfold F13
  simp only [jp_eq]
  refine fixN_ind (fun m (y : Int × Int × List Int) => ∃ i : Nat, y.1 = 0 ∧ y.2.1 = (i : Int) ∧ i + m = l.length ∧ y.2.2 = bytX (l.take i) ∧ (l.take i).all rightB = true) (fun _ o => o = some (if l.all rightB then (0, bytX l) else (1, []))) ?_ N l.length _ (by omega) ⟨0, rfl, rfl, by omega, rfl, rfl⟩
  rintro m ⟨z, y, out⟩ again ⟨i, hz, hy, h1, h2, h3⟩ ih
  simp only at hz hy h2
  subst hz hy h2
  simp only
  rcases Nat.eq_zero_or_pos m with h0 | h0
  · rw [List.take_of_length_le (by omega)] at h3 ⊢
    rw [brF (by omega), if_pos h3]
  · have hlt : i < l.length := by omega
    have hx := hv _ (List.getElem_mem hlt)
    simp only [Int.toNat_natCast]
    rw [brT (by omega), chk_true (by simp; omega), getD_mem l i hlt]
    cases hr : rightB l[i] with
    | false =>
      rw [Encode_wrong hN hx hr, bindS_some]
      have hall : l.all rightB = false := by
        rw [List.all_eq_false]
        exact ⟨_, List.getElem_mem hlt, by rw [hr]; simp⟩
      rw [hall]
      rfl
    | true =>
      have rt := rtX hN hx hr
      rw [rt.enc, bindS_some]
      simp only
      rw [br_false (by simp), (Bytes_is hN rt.lt).1, bindS_some, chkT (by rw [bytX_len]; simp only [byt4, List.length_cons, List.length_nil, lim, List.length_take]; omega), wrap64 (by omega) (by omega)]
      refine ih (m - 1) _ (by omega) ⟨i + 1, rfl, by simp only; omega, by omega, ?_, ?_⟩
      · simp only
        unfold bytX
        rw [List.take_succ_eq_append_getElem hlt, List.flatMap_append, List.flatMap_cons, List.flatMap_nil, List.append_nil]
      · rw [List.take_succ_eq_append_getElem hlt, List.all_append, h3]
        simp [hr]

theorem EncodePrograms_is {N : Nat} (hN : 5000 ≤ N) (l : List Ins) (b : List Int) (hop : ∀ x ∈ l, x.1 ≤ 9223372036854775807) (hv : ∀ x ∈ l, I64 x.2.2.2.2.1) (hby : ∀ x ∈ b, isBy x) : F6 N l b = some true := by
  have hN1 : 100 ≤ N := by omega
  unfold F6
  rw [alive07 hN1, bindS_some, Bool.not_true, br_f]
  rw [jp_val (v := (decide (1000 < (l.length : Int)) || decide (4000 < (b.length : Int)))) (h := fun K => br_or _ _ K)]
  cases hg : (decide (1000 < (l.length : Int)) || decide (4000 < (b.length : Int))) with
  | true => rfl
  | false =>
    rw [Bool.or_eq_false_iff] at hg
    have g1 := of_decide_eq_false hg.1
    have g2 := of_decide_eq_false hg.2
    have h1 : l.length ≤ 1000 := by omega
    have h2 : b.length ≤ 4000 := by omega
    rw [br_f, Program_is hN1 l h1 (by omega) hv, bindS_some]
    have hlb := lstI_len b
    refine fixN_ind (fun m (y : Bool × Int × List Int) => ∃ i : Nat, y.2.1 = (i : Int) ∧ i + m = l.length ∧ y.1 = (l.take i).all rightB ∧ y.2.2.length ≤ 4 * i ∧ (y.1 = true → y.2.2 = bytX (l.take i))) (fun _ o => o = some true) ?_ N l.length _ (by omega) ⟨0, rfl, by omega, rfl, by simp, fun _ => rfl⟩
    rintro m ⟨ok, y, out⟩ again ⟨i, hy, q1, q2, q3, q4⟩ ih
    simp only at hy q2 q3 q4
    subst hy
    simp only
    rcases Nat.eq_zero_or_pos m with h0 | h0
    · rw [List.take_of_length_le (by omega)] at q2 q4
      rw [brF (by omega), List_is hN1 b (by omega) (by omega) hby, bindS_some, rList_is hN1 b (by omega) (by omega) hby, bindS_some, Same_is _ _ (by omega) (by omega), bindS_some, decide_eq_true rfl, Bool.not_true, br_f]
      simp only [jp_eq]
      cases ok with
      | false =>
        rw [if_neg (by rw [← q2]; simp)]
        rfl
      | true =>
        have q4 := q4 rfl
        subst q4
        have hall : ∀ x ∈ l, rightB x = true := fun x hx => List.all_eq_true.1 q2.symm x hx
        have hbl := bytX_len l
        have hrt : ∀ x ∈ l, RtX 100 x := fun x hx => rtX (Nat.le_refl _) (hv x hx) (hall x hx)
        rw [if_pos q2.symm]
        simp only
        rw [Bool.not_true, br_f, bindS_some, br_t, brT trivial, SameBytes_is _ _ (by omega) (by omega), bindS_some, decide_eq_true rfl, br_t, List_is hN1 _ (by omega) (by omega) (bytX_by l), bindS_some, lstI_bytX l hrt, Same_is _ _ (by omega) (by omega), bindS_some, decide_eq_true rfl]
    · have hlt : i < l.length := by omega
      have hx := hv _ (List.getElem_mem hlt)
      have hall : (l.take (i + 1)).all rightB = (ok && rightB l[i]) := by
        rw [List.take_succ_eq_append_getElem hlt, List.all_append, ← q2]; simp
      rw [brT (by omega)]
      simp only [Int.toNat_natCast]
      rw [getD_mem l i hlt]
      have step : ∀ ok' out', ok' = (ok && rightB l[i]) → out'.length ≤ 4 * (i + 1) → (ok' = true → out' = bytX (l.take (i + 1))) → again (ok', IntKind.i64.wrap ((i : Int) + 1), out') = some true := by
        intro ok' out' e1 e2 e3
        rw [wrap64 (by omega) (by omega)]
        exact ih (m - 1) _ (by omega) ⟨i + 1, rfl, by omega, by rw [hall]; exact e1, e2, e3⟩
      rw [jp_eq]
      rw [jp_val (v := ok && rightB l[i])]
      rotate_left
      · intro K
        rw [rRight_is hN1 (hop _ (List.getElem_mem hlt)), bindS_some, chk_true (by simp; omega)]
        cases ok <;> rfl
      cases hok : (ok && rightB l[i]) with
      | false =>
        rw [br_f]
        exact step false out hok.symm (by omega) (fun h => by simp at h)
      | true =>
        rw [Bool.and_eq_true] at hok
        have rt := rtX hN1 hx hok.2
        rw [br_t, chk_true (by simp; omega), rt.ref, bindS_some, (Bytes_is hN1 rt.lt).2, bindS_some, chkT (by simp only [byt4, List.length_cons, List.length_nil, lim]; omega)]
        refine step true _ (by rw [hok.1, hok.2]; rfl) (by simp [byt4]; omega) fun _ => ?_
        unfold bytX at q4 ⊢
        rw [q4 hok.1, List.take_succ_eq_append_getElem hlt, List.flatMap_append, List.flatMap_cons, List.flatMap_nil, List.append_nil]

theorem u8_by {x : Int} (h : (Ty.int .u8).wf x) : isBy x := by
  have h : (Lit.int .u8 x).wf = true := h
  simp only [Lit.wf, Bool.and_eq_true, decide_eq_true_eq, IntKind.min, IntKind.max, IntKind.signed, IntKind.bits] at h
  simp at h
  unfold isBy
  omega
end Go.Proofs.Ytkcfkegkhopakaa
