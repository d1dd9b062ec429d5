/- Plain laws of the flights: what Passed, Source and Waits look at. No condition. -/
import Derived.Test.YtipdancojcdioaaEqLb
import Derived.Test.YtipdancojcdioaaShT
namespace Go.Proofs.Ytipdancojcdioaa
open Go Go.Ev Go.Sh
set_option linter.unusedVariables false
set_option linter.unusedSimpArgs false
set_option maxRecDepth 100000

abbrev SLOT := Int × (Int × (Int × (Bool × (Int × (Bool × (Int × (Bool × (Int × (Bool × List Int)))))))))
def DD : SLOT := (0, 0, 0, false, 0, false, 0, false, 0, false, List.replicate 8 0)

def Tot {ρ : Type} (o : Option ρ) : Prop := ∃ v, o = some v
theorem Tot.mk {ρ : Type} (v : ρ) : Tot (some v) := ⟨v, rfl⟩
theorem Tot.br {ρ : Type} {c : Bool} {a b : Option ρ} (h1 : Tot a) (h2 : Tot b) : Tot (Go.Sh.br c a b) := by cases c; exact h2; exact h1
theorem Tot.jp {α ρ : Type} {k : α → Option ρ} {b : (α → Option ρ) → Option ρ} (hk : ∀ a, Tot (k a)) (hb : ∀ K : α → Option ρ, (∀ a, Tot (K a)) → Tot (b K)) : Tot (Go.Sh.jp k b) := hb k hk
theorem Tot.bind {α ρ : Type} {t : Option α} {k : α → Option ρ} (ht : Tot t) (hk : ∀ a, Tot (k a)) : Tot (bindS t k) := by obtain ⟨v, rfl⟩ := ht; exact hk v
theorem Tot.get {ρ : Type} {o : Option ρ} (h : Tot o) (d : ρ) : o = some (o.getD d) := by obtain ⟨v, rfl⟩ := h; rfl

/-- a search whose test ends in a join -/
theorem search_jp {ρ : Type} {N n : Nat} {a b : Int} (hN : n < N) (hn : n < 9223372036854775807) (ha : a = n) (hb : b = n) {body : Int → (Bool → Option ρ) → Option ρ} {p : Nat → Bool} (hp : ∀ k : Nat, k < n → ∀ K, body k K = K (p k)) (found : Int → Option ρ) (rest : Option ρ) {F : (Int → Option ρ) → Int → Option ρ}
    (hF : F = fun again i => br (decide (i < a)) (chk (decide (0 ≤ i) && decide (i < b)) (jp (fun y => br y (found i) (again (IntKind.i64.wrap (i + 1)))) (body i))) rest) :
    fixN N F 0 = match find1 p n 0 with
      | some k => found k
      | none => rest := by
  subst hF ha hb
  have := fixN_ind (F := fun again (i : Int) => br (decide (i < (n : Int))) (chk (decide (0 ≤ i) && decide (i < (n : Int))) (jp (fun y => br y (found i) (again (IntKind.i64.wrap (i + 1)))) (body i))) rest)
    (fun m s => m ≤ n ∧ s = ((n - m : Nat) : Int)) (fun s o => o = match find1 p (n - s.toNat) s.toNat with | some k => found k | none => rest) ?_ N n (0 : Int) hN ⟨by omega, by omega⟩
  · simpa using this
  · rintro m s again ⟨hm, rfl⟩ ih
    rcases Nat.eq_zero_or_pos m with h0 | h0
    · subst h0
      simp [find1]
    · have e1 : decide (((n - m : Nat) : Int) < (n : Int)) = true := decide_eq_true (by omega)
      have e2 : decide ((0 : Int) ≤ ((n - m : Nat) : Int)) = true := decide_eq_true (by omega)
      have e3 : n - (n - m) = (m - 1) + 1 := by omega
      have := ih (m - 1) (((n - m : Nat) : Int) + 1) (by omega) ⟨by omega, by omega⟩
      rw [br_true e1, chk_true (by rw [e2, e1]; rfl), jp_eq, hp _ (by omega), wrap64 (by omega) (by omega), Int.toNat_natCast, e3, find1]
      cases hp : p (n - m) with
      | true => simp
      | false =>
        simp only [br_f, Bool.false_eq_true, if_false]
        rw [this]
        have e4 : (((n - m : Nat) : Int) + 1).toNat = n - m + 1 := by omega
        rw [e4, show n - (n - m + 1) = m - 1 by omega]

/-! ### kinds, sizes -/
def kd (op : Int) : Int := (F57 100 op).getD 0
theorem F57_is (op : Int) : F57 100 op = some (kd op) := by
  refine Tot.get ?_ 0
  unfold F57
  refine Tot.jp (fun y => ?_) (fun K hK => ?_)
  · repeat' (first | exact Tot.mk _ | refine Tot.br ?_ ?_)
  · exact Tot.br (hK _) (hK _)

theorem F73_is (s : SLOT) : F73 100 s = some (decide (kd s.1 = 4)) := by unfold F73; rw [F57_is]; rfl
theorem F74_is (s : SLOT) : F74 100 s = some (decide (10 ≤ kd s.1)) := by unfold F74; rw [F57_is]; rfl
theorem F75_is (s : SLOT) : F75 100 s = some (decide (kd s.1 = 8)) := by unfold F75; rw [F57_is]; rfl
theorem F77_is (s : SLOT) : F77 100 s = some (decide (kd s.1 = 5)) := by unfold F77; rw [F57_is]; rfl

def Bd {o : Option Int} (h : Tot o) : Prop := True
def Le8 (o : Option Int) : Prop := ∃ v, o = some v ∧ 0 ≤ v ∧ v ≤ 8
theorem Le8.br {c : Bool} {a b : Option Int} (h1 : Le8 a) (h2 : Le8 b) : Le8 (Go.Sh.br c a b) := by cases c; exact h2; exact h1
theorem Le8.jp {α : Type} {k : α → Option Int} {b : (α → Option Int) → Option Int} (hk : ∀ a, Le8 (k a)) (hb : ∀ K : α → Option Int, (∀ a, Le8 (K a)) → Le8 (b K)) : Le8 (Go.Sh.jp k b) := hb k hk
theorem F58_le (op : Int) : Le8 (F58 100 op) := by
  unfold F58
  refine Le8.jp (fun y => Le8.br ⟨1, rfl, by omega, by omega⟩ (Le8.jp (fun y => Le8.br ⟨2, rfl, by omega, by omega⟩ (Le8.jp (fun y => Le8.br ⟨4, rfl, by omega, by omega⟩ (Le8.jp (fun y => Le8.br ⟨8, rfl, by omega, by omega⟩ ?_) fun K hK => ?_)) fun K hK => ?_)) fun K hK => ?_)) fun K hK => ?_
  · rw [F57_is, bindS_some]
    exact Le8.br ⟨0, rfl, by omega, by omega⟩ (Le8.br ⟨4, rfl, by omega, by omega⟩ ⟨8, rfl, by omega, by omega⟩)
  all_goals repeat' (first | exact hK _ | refine Le8.br ?_ ?_)
def sz (op : Int) : Int := (F58 100 op).getD 0
theorem F58_is (op : Int) : F58 100 op = some (sz op) := by
  obtain ⟨v, h, _⟩ := F58_le op
  unfold sz; rw [h]; rfl
theorem sz_le (op : Int) : 0 ≤ sz op ∧ sz op ≤ 8 := by
  obtain ⟨v, h, h1, h2⟩ := F58_le op
  unfold sz; rw [h]; exact ⟨h1, h2⟩

def spanOk (a n : Int) : Bool := decide (0 ≤ a) && decide (a ≤ 1099511627776) && decide (1 ≤ n) && decide (n ≤ 8)
theorem F98_is (a n : Int) : F98 100 a n = some (spanOk a n) := by
  unfold F98 spanOk
  simp only [jp_eq]
  cases decide (0 ≤ a) <;> cases decide (a ≤ 1099511627776) <;> cases decide (1 ≤ n) <;> cases decide (n ≤ 8) <;> rfl

theorem F81_tot (a b c d : Int) : Tot (F81 100 a b c d) := by
  unfold F81
  simp only [F98_is, bindS_some]
  have fin : ∀ y1 : Bool, Tot (some y1) := Tot.mk
  by_cases hb : spanOk a b = true
  · by_cases hd : spanOk c d = true
    · simp only [hb, hd, jp_eq, Bool.not_true, br_f]
      simp only [spanOk, Bool.and_eq_true, decide_eq_true_eq] at hb hd
      refine fixN_ind (fun m (s : Bool × Int) => m ≤ 8 ∧ s.2 = b - (m : Int) ∧ 0 ≤ s.2) (fun _ o => Tot o) ?_ 100 b.toNat _ (by omega) ⟨by omega, by show (0 : Int) = _; omega, Int.le_refl _⟩
      rintro m ⟨y, i⟩ again ⟨hm, hi, hi0⟩ ih
      simp only at hi hi0
      rcases Nat.eq_zero_or_pos m with h0 | h0
      · have e : decide (i < b) = false := decide_eq_false (by omega)
        simp only [e, br_f]
        exact Tot.mk _
      · have e : decide (i < b) = true := decide_eq_true (by omega)
        simp only [e, br_t]
        refine fixN_ind (fun m2 (s : Bool × Int) => m2 ≤ 8 ∧ s.2 = d - (m2 : Int) ∧ 0 ≤ s.2) (fun _ o => Tot o) ?_ 100 d.toNat _ (by omega) ⟨by omega, by show (0 : Int) = _; omega, Int.le_refl _⟩
        rintro m2 ⟨y2, i2⟩ again2 ⟨hm2, hi2, hi20⟩ ih2
        simp only at hi2 hi20
        rcases Nat.eq_zero_or_pos m2 with h02 | h02
        · have e2 : decide (i2 < d) = false := decide_eq_false (by omega)
          simp only [e2, br_f]
          rw [wrap64 (by omega) (by omega)]
          exact ih (m - 1) _ (by omega) ⟨by omega, by show i + 1 = _; omega, by show 0 ≤ i + 1; omega⟩
        · have e2 : decide (i2 < d) = true := decide_eq_true (by omega)
          simp only [e2, br_t]
          refine Tot.br (Tot.mk _) ?_
          rw [wrap64 (n := i2 + 1) (by omega) (by omega)]
          exact ih2 (m2 - 1) _ (by omega) ⟨by omega, by show i2 + 1 = _; omega, by show 0 ≤ i2 + 1; omega⟩
    · simp only [Bool.not_eq_true] at hd
      simp only [hb, hd, jp_eq, Bool.not_true, Bool.not_false, br_f, br_t]
      exact Tot.mk _
  · simp only [Bool.not_eq_true] at hb
    simp only [hb, jp_eq, Bool.not_false, br_t]
    exact Tot.mk _

def ov (a b c d : Int) : Bool := (F81 100 a b c d).getD false
theorem F81_is (a b c d : Int) : F81 100 a b c d = some (ov a b c d) := Tot.get (F81_tot a b c d) false

def both (s t : SLOT) : Bool := (F76 100 s t).getD false
theorem F76_is (s t : SLOT) : F76 100 s t = some (both s t) := by
  refine Tot.get ?_ false
  unfold F76
  simp only [F58_is, F81_is, bindS_some]
  refine Tot.jp (fun y => Tot.mk _) fun K hK => ?_
  repeat' (first | exact hK _ | refine Tot.br ?_ ?_)

def byteOf (s : SLOT) (n : Int) : Bool := (F82 100 s n).getD false
theorem F82_is (s : SLOT) (n : Int) : F82 100 s n = some (byteOf s n) := by
  refine Tot.get ?_ false
  unfold F82
  simp only [F58_is, F81_is, bindS_some]
  refine Tot.jp (fun y => Tot.mk _) fun K hK => ?_
  repeat' (first | exact hK _ | refine Tot.br ?_ ?_)

theorem F43_is : F43 100 = some true := by kernel_rfl

end Go.Proofs.Ytipdancojcdioaa
