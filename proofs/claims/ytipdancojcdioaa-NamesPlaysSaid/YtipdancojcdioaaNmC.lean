/- Plain law: the names' last. No condition. -/
import Derived.Test.YtipdancojcdioaaNmB
namespace Go.Proofs.Ytipdancojcdioaa
open Go Go.Ev Go.Sh
set_option linter.unusedVariables false
set_option linter.unusedSimpArgs false
set_option maxRecDepth 100000

theorem jp3 {ρ : Type} {c1 c2 c3 : Bool} {A : Bool → Option ρ} {z : Option ρ} (hT : c1 = true → c2 = true → c3 = true → A true = z) (hF : A false = z) :
    jp A (fun K => br c1 (br c2 (K c3) (K Bool.false)) (K Bool.false)) = z := by
  cases c1 <;> cases c2 <;> cases c3 <;> simp only [jp_eq, br_t, br_f] <;> first | exact hF | exact hT rfl rfl rfl

theorem jp2 {ρ : Type} {c1 c2 : Bool} {A : Bool → Option ρ} {z : Option ρ} (hT : c1 = true → c2 = true → A true = z) (hF : A false = z) :
    jp A (fun K => br c1 (K c2) (K Bool.false)) = z := by
  cases c1 <;> cases c2 <;> simp only [jp_eq, br_t, br_f] <;> first | exact hF | exact hT rfl rfl

theorem retire_use {ρ : Type} {M : Nat} {rest : Int × List (Int × Bool) × List Int × List (Int × Int) → Option ρ} {stop z : Option ρ} {F : (Int × List (Int × Bool) × List Int × List (Int × Int) → Option ρ) → Int × List (Int × Bool) × List Int × List (Int × Int) → Option ρ}
    (hF : F = fun again y => br (decide (0 < y.1)) (bindS (F20 M y.2.1 y.2.2.1 y.2.2.2) fun z => br (!z.1) stop (again (IntKind.i64.wrap (y.1 - 1), z.2.1, z.2.2.1, z.2.2.2))) (rest y)) {C : List (Int × Bool)}
    {N : Nat} {S : List Int} {L : List (Int × Int)} {m : Int} (h : NI C S L) (hr : Rdy C L) (h1 : L.length < N) (h2 : L.length ≤ 60) (h3 : m = L.length)
    (k : ∀ S', NI C S' [] → (∀ x, 0 ≤ x → x < 32 → look S' [] x = look S L x) → rest (0, C, S', []) = z) : fixN N F (m, C, S, L) = z := by
  obtain ⟨S', h5, h6, h7⟩ := retire_all hF h hr h1 h2 h3
  rw [h7]
  exact k S' h5 h6

theorem eqN_refl {α : Type} {f : α → α → Bool} {d : α} (hf : ∀ x, f x x = true) : ∀ (n : Nat) (xs : List α), eqN f d n xs xs = true
  | 0, xs => by cases xs <;> rfl
  | n + 1, [] => by simp only [eqN, hf, eqN_refl hf n, Bool.and_self]
  | n + 1, x :: xs => by simp only [eqN, hf, eqN_refl hf n, Bool.and_self]

theorem list_ext {n : Nat} {V W : List Int} (h1 : V.length = n) (h2 : W.length = n) (h : ∀ j, j < n → V.getD j 0 = W.getD j 0) : V = W := by
  refine List.ext_getElem (by omega) fun j a b => ?_
  have := h j (by omega)
  rw [List.getD_eq_getElem?_getD, List.getD_eq_getElem?_getD, List.getElem?_eq_getElem a, List.getElem?_eq_getElem b] at this
  exact this

theorem tmod32 {b : Int} (h1 : 0 ≤ b) (h2 : b < 256) : (IntKind.i64.wrap b).tmod 32 = b % 32 := by
  rw [wrap64 (by omega) (by omega), Int.tmod_eq_emod_of_nonneg h1]

theorem setD_len {α : Type} {d : α} {xs : List α} {i : Nat} {y : α} (h : i < xs.length) : (setD d xs i y).length = xs.length := by
  rw [setD_set h, List.length_set]

def Vals (W : List Int) (C : List (Int × Bool)) (S : List Int) (L : List (Int × Int)) : Prop := ∀ x : Int, 0 ≤ x → x < 32 → W.getD x.toNat 0 = (C.getD (look S L x).toNat (0, false)).1

theorem F4_is {x1 x2 x3 : List Int} (h1 : x1.length = 32) (h2 : ∀ b ∈ x2, 0 ≤ b ∧ b < 256) : F4 100 x1 x2 x3 = some true := by
  unfold F4
  obtain ⟨C0, S0, e0, hC0, hS0, hs, hc⟩ := F16_is (N := 100) (by omega) x1
  simp only [F15_is, bindS_some, Bool.not_true, br_f, e0]
  refine fixN_ind (fun m (y : Int × Int × List Int × List (Int × Bool) × List Int × List (Int × Int)) => ∃ k : Nat, y.2.1 = k ∧ k + m = 60 ∧ y.1 = y.2.2.2.2.2.length ∧ y.2.2.2.2.2.length ≤ 11 ∧ y.2.2.1.length = 32 ∧ NI y.2.2.2.1 y.2.2.2.2.1 y.2.2.2.2.2 ∧ Rdy y.2.2.2.1 y.2.2.2.2.2 ∧ Vals y.2.2.1 y.2.2.2.1 y.2.2.2.2.1 y.2.2.2.2.2)
    (fun _ o => o = some true) ?_ 100 60 _ (by omega) ⟨0, rfl, rfl, rfl, by simp, by show (setD 0 x1 0 0).length = 32; rw [setD_len (by omega), h1], ⟨hC0, hS0, fun s hs' => ?_, fun x hx => by simp at hx⟩, fun x hx => by simp at hx, fun x hx1 hx2 => ?_⟩
  · rintro m ⟨cnt, i, W, C, S, L⟩ again ⟨k, hi, hk, hcnt, hL, hW, hNI, hR, hV⟩ ih
    simp only at hi hcnt hL hW hNI hR hV
    subst hi hcnt
    refine jp3 (fun c1 c2 c3 => ?_) ?_
    · have c1' := of_decide_eq_true c1
      have c2' := of_decide_eq_true c2
      have c3' := of_decide_eq_true c3
      simp only at c1' c2' c3'
      have hb := h2 _ (getD_mem (d := 0) (xs := x2) (i := k) (by omega))
      have hkN : IntKind.i64.wrap ((k : Int) + 1) = ((k + 1 : Nat) : Int) := by rw [wrap64 (by omega) (by omega)]; rfl
      have d1 : decide ((0 : Int) ≤ (k : Int)) = true := decide_eq_true (by omega)
      simp only [br_t, jp_eq, d1, c1, c2, Bool.and_self, chk_t, Int.toNat_natCast, tmod32 hb.1 hb.2, hkN]
      by_cases hr : x2.getD k 0 % 32 < 1
      · have d2 : decide (0 < x2.getD k 0 % 32) = false := decide_eq_false (by omega)
        rw [F18_out (.inl hr)]
        simp only [bindS_some, d2, Bool.not_true, Bool.not_false, br_t, br_f, beq_self_eq_true]
        exact ih (m - 1) _ (by omega) ⟨k + 1, rfl, by omega, rfl, hL, hW, hNI, hR, hV⟩
      · have d2 : decide (0 < x2.getD k 0 % 32) = true := decide_eq_true (by omega)
        have d3 : decide (0 ≤ x2.getD k 0 % 32) = true := decide_eq_true (by omega)
        have d4 : decide (x2.getD k 0 % 32 < 32) = true := decide_eq_true (by omega)
        obtain ⟨c, C1, C2, f1, f2, f3, f4, f5⟩ := claim_set (N := 100) (by omega) hNI hR hL (r := x2.getD k 0 % 32) (v := x3.getD k 0) (by omega) (by omega)
        have hW2 : (setD 0 W (x2.getD k 0 % 32).toNat (x3.getD k 0)).length = 32 := by rw [setD_len (by omega), hW]
        have hV2 : Vals (setD 0 W (x2.getD k 0 % 32).toNat (x3.getD k 0)) C2 S (L ++ [(x2.getD k 0 % 32, c)]) := by
          intro x hx1 hx2
          rw [f5 x hx1 hx2, setD_set (by omega), getD_set (by omega)]
          by_cases e : x2.getD k 0 % 32 = x
          · rw [if_pos e, if_pos (by omega)]
          · rw [if_neg e, if_neg (by omega)]
            exact hV x hx1 hx2
        have hcw : IntKind.i64.wrap ((L.length : Int) + 1) = ((L ++ [(x2.getD k 0 % 32, c)]).length : Int) := by rw [wrap64 (by omega) (by omega)]; simp
        have hlen : (L ++ [(x2.getD k 0 % 32, c)]).length = L.length + 1 := by simp
        simp only [f1, f2, bindS_some, d2, d3, d4, Bool.not_true, Bool.and_self, chk_t, br_f, beq_self_eq_true, hcw]
        have loop : ∀ z, (∀ S', NI C2 S' [] → (∀ x, 0 ≤ x → x < 32 → look S' [] x = look S (L ++ [(x2.getD k 0 % 32, c)]) x) → again (0, ((k + 1 : Nat) : Int), setD 0 W (x2.getD k 0 % 32).toNat (x3.getD k 0), C2, S', []) = z) →
            fixN 100 (fun again10 (y11 : Int × List (Int × Bool) × List Int × List (Int × Int)) => br (decide (0 < y11.1)) (bindS (F20 100 y11.2.1 y11.2.2.1 y11.2.2.2) fun y12 => br (!y12.1) (some false) (again10 (IntKind.i64.wrap (y11.1 - 1), y12.2.1, y12.2.2.1, y12.2.2.2)))
              (again (y11.1, ((k + 1 : Nat) : Int), setD 0 W (x2.getD k 0 % 32).toNat (x3.getD k 0), y11.2.1, y11.2.2.1, y11.2.2.2))) (((L ++ [(x2.getD k 0 % 32, c)]).length : Int), C2, S, L ++ [(x2.getD k 0 % 32, c)]) = z := by
          intro z hz
          exact retire_use rfl f3 f4 (by omega) (by omega) rfl hz
        have go1 : ∀ S', NI C2 S' [] → (∀ x, 0 ≤ x → x < 32 → look S' [] x = look S (L ++ [(x2.getD k 0 % 32, c)]) x) → again (0, ((k + 1 : Nat) : Int), setD 0 W (x2.getD k 0 % 32).toNat (x3.getD k 0), C2, S', []) = some true := by
          intro S' g1 g2
          refine ih (m - 1) _ (by omega) ⟨k + 1, rfl, by omega, rfl, by simp, hW2, g1, fun x hx => by simp at hx, fun x hx1 hx2 => ?_⟩
          rw [g2 x hx1 hx2]
          exact hV2 x hx1 hx2
        by_cases h12 : ((L ++ [(x2.getD k 0 % 32, c)]).length : Int) = 12
        · have d5 := decide_eq_true h12
          simp only [d5, br_t]
          exact loop _ go1
        · have d5 := decide_eq_false h12
          simp only [d5, br_f]
          cases decide (127 < x2.getD k 0) with
          | true => exact loop _ go1
          | false => exact ih (m - 1) _ (by omega) ⟨k + 1, rfl, by omega, rfl, by simp only; omega, hW2, f3, f4, hV2⟩
    · simp only [br_f]
      refine retire_use rfl hNI hR (by omega) (by omega) rfl fun S' g1 g2 => ?_
      obtain ⟨V, k1, k2, k3⟩ := F23_is (N := 100) (by omega) (C := C) (L := []) g1.sl g1.s0
      have : V = W := by
        refine list_ext k2 hW fun j hj => ?_
        rw [k3 j hj]
        have := hV (j : Int) (by omega) (by omega)
        rw [← g2 (j : Int) (by omega) (by omega)] at this
        simp only [Int.toNat_natCast] at this
        rw [this]
        rfl
      subst this
      have e : (Ty.arr 32 (Ty.int IntKind.u64)).eq V V = true := eqN_refl (f := fun a b : Int => decide (a = b)) (d := (0 : Int)) (fun x => decide_eq_true rfl) 32 V
      simp only [jp_eq, F15_is, bindS_some, br_t, k1, e, F17_is]
      rfl
  · have hs2 : s ∈ S0 := hs'
    obtain ⟨j, hj, hjs⟩ := List.getElem_of_mem hs2
    have := hs j (by omega)
    rw [List.getD_eq_getElem?_getD, List.getElem?_eq_getElem hj, Option.getD_some] at this
    rw [hjs] at this
    omega
  · show (setD 0 x1 0 0).getD x.toNat 0 = _
    have e : look S0 [] x = (x.toNat : Int) := hs x.toNat (by omega)
    rw [e, Int.toNat_natCast, hc _ (by omega)]

theorem u8_wf {xs : List Int} (h : ∀ x ∈ xs, Ty.wf (.int .u8) x) : ∀ b ∈ xs, 0 ≤ b ∧ b < 256 := by
  intro b hb
  have := h b hb
  simp only [Ty.wf, Lit.wf, Bool.and_eq_true, decide_eq_true_eq] at this
  have e1 : IntKind.u8.min = 0 := by kernel_rfl
  have e2 : IntKind.u8.max = 255 := by kernel_rfl
  rw [e1, e2] at this
  exact ⟨this.1, by omega⟩

end Go.Proofs.Ytipdancojcdioaa
