/- The words of the residuals: loops. No condition. -/
import Derived.Test.YtipdancojcdioaaShR
namespace Go.Sh
set_option linter.unusedVariables false
open Go

theorem fixN_ind {σ ρ : Type} {F : (σ → Option ρ) → σ → Option ρ} (inv : Nat → σ → Prop) (R : σ → Option ρ → Prop)
    (step : ∀ k s again, inv k s → (∀ k' s', k' < k → inv k' s' → R s' (again s')) → R s (F again s)) : ∀ n k s, k < n → inv k s → R s (fixN n F s)
  | 0, k, s, h, _ => by omega
  | n + 1, k, s, h, hi => step k s (fixN n F) hi fun k' s' hk hi' => fixN_ind inv R step n k' s' (by omega) hi'

theorem wrap64 {n : Int} (h1 : -9223372036854775808 ≤ n) (h2 : n ≤ 9223372036854775807) : IntKind.i64.wrap n = n := by
  have key : IntKind.i64.wrap n = if (9223372036854775808 : Int) ≤ n % 18446744073709551616 then n % 18446744073709551616 - 18446744073709551616 else n % 18446744073709551616 := by
    simp [IntKind.wrap, IntKind.bits, IntKind.signed]
  rw [key]
  split <;> omega

theorem chk_true {ρ : Type} {c : Bool} {r : Option ρ} (h : c = true) : chk c r = r := by rw [h]; rfl
theorem br_true {ρ : Type} {c : Bool} {a b : Option ρ} (h : c = true) : br c a b = a := by rw [h]; rfl
theorem br_false {ρ : Type} {c : Bool} {a b : Option ρ} (h : c = false) : br c a b = b := by rw [h]; rfl
@[simp] theorem br_t {ρ : Type} {a b : Option ρ} : br true a b = a := rfl
@[simp] theorem br_f {ρ : Type} {a b : Option ρ} : br false a b = b := rfl
@[simp] theorem chk_t {ρ : Type} {a : Option ρ} : chk true a = a := rfl
@[simp] theorem bindS_some {α ρ : Type} {x : α} {k : α → Option ρ} : bindS (some x) k = k x := rfl
theorem jp_eq {α ρ : Type} (k : α → Option ρ) (b : (α → Option ρ) → Option ρ) : jp k b = b k := rfl
theorem br_ite {ρ : Type} (c : Bool) (a b : Option ρ) : br c a b = if c then a else b := by cases c <;> rfl

/-- a search upward: the first place from k on, of n -/
def find1 (p : Nat → Bool) : Nat → Nat → Option Nat
  | 0, _ => none
  | m + 1, k => if p k then some k else find1 p m (k + 1)

theorem search_from {ρ : Type} {N n : Nat} {a b : Int} (hn : n < 9223372036854775807) (ha : a = n) (hb : b = n) (p : Int → Bool) (found : Int → Option ρ) (rest : Option ρ) (k : Nat) (hk : k ≤ n) (hN : n - k < N) :
    fixN N (fun again (i : Int) => br (decide (i < a)) (chk (decide (0 ≤ i) && decide (i < b)) (br (p i) (found i) (again (IntKind.i64.wrap (i + 1))))) rest) (k : Int) =
      match find1 (fun k => p k) (n - k) k with
      | some k => found k
      | none => rest := by
  subst ha hb
  have := fixN_ind (F := fun again (i : Int) => br (decide (i < (n : Int))) (chk (decide (0 ≤ i) && decide (i < (n : Int))) (br (p i) (found i) (again (IntKind.i64.wrap (i + 1))))) rest)
    (fun m s => m ≤ n ∧ s = ((n - m : Nat) : Int)) (fun s o => o = match find1 (fun k => p k) (n - s.toNat) s.toNat with | some k => found k | none => rest) ?_ N (n - k) (k : Int) hN ⟨by omega, by omega⟩
  · simpa using this
  · rintro m s again ⟨hm, rfl⟩ ih
    rcases Nat.eq_zero_or_pos m with h0 | h0
    · subst h0
      simp [find1]
    · have e1 : decide (((n - m : Nat) : Int) < (n : Int)) = true := decide_eq_true (by omega)
      have e2 : decide ((0 : Int) ≤ ((n - m : Nat) : Int)) = true := decide_eq_true (by omega)
      have e3 : n - (n - m) = (m - 1) + 1 := by omega
      have := ih (m - 1) (((n - m : Nat) : Int) + 1) (by omega) ⟨by omega, by omega⟩
      rw [br_true e1, chk_true (by rw [e2, e1]; rfl), wrap64 (by omega) (by omega), Int.toNat_natCast, e3, find1]
      cases hp : p ((n - m : Nat) : Int) with
      | true => simp
      | false =>
        simp only [br_f, Bool.false_eq_true, if_false]
        rw [this]
        have e4 : (((n - m : Nat) : Int) + 1).toNat = n - m + 1 := by omega
        rw [e4, show n - (n - m + 1) = m - 1 by omega]

theorem search_up {ρ : Type} {N n : Nat} {a b : Int} (hN : n < N) (hn : n < 9223372036854775807) (ha : a = n) (hb : b = n) (p : Int → Bool) (found : Int → Option ρ) (rest : Option ρ) :
    fixN N (fun again (i : Int) => br (decide (i < a)) (chk (decide (0 ≤ i) && decide (i < b)) (br (p i) (found i) (again (IntKind.i64.wrap (i + 1))))) rest) 0 =
      match find1 (fun k => p k) n 0 with
      | some k => found k
      | none => rest := by
  have := search_from (N := N) hn ha hb p found rest 0 (by omega) (by omega)
  simpa using this

theorem find1_some {p : Nat → Bool} : ∀ {m k j : Nat}, find1 p m k = some j → k ≤ j ∧ j < k + m ∧ p j = true ∧ ∀ i, k ≤ i → i < j → p i = false
  | 0, k, j, h => by simp [find1] at h
  | m + 1, k, j, h => by
    simp only [find1] at h
    split at h
    · rename_i hp
      obtain rfl := Option.some.inj h
      exact ⟨by omega, by omega, hp, fun i h1 h2 => by omega⟩
    · rename_i hp
      obtain ⟨h1, h2, h3, h4⟩ := find1_some h
      refine ⟨by omega, by omega, h3, fun i g1 g2 => ?_⟩
      rcases Nat.lt_or_ge k i with hlt | hge
      · exact h4 i (by omega) g2
      · obtain rfl : i = k := by omega
        simpa using hp

theorem find1_none {p : Nat → Bool} : ∀ {m k : Nat}, find1 p m k = none → ∀ i, k ≤ i → i < k + m → p i = false
  | 0, k, h, i, h1, h2 => by omega
  | m + 1, k, h, i, h1, h2 => by
    simp only [find1] at h
    split at h
    · simp at h
    · rename_i hp
      rcases Nat.lt_or_ge k i with hlt | hge
      · exact find1_none h i (by omega) (by omega)
      · obtain rfl : i = k := by omega
        simpa using hp

theorem find1_ext {p q : Nat → Bool} : ∀ {m k : Nat}, (∀ i, k ≤ i → i < k + m → p i = q i) → find1 p m k = find1 q m k
  | 0, _, _ => rfl
  | m + 1, k, h => by
    simp only [find1]
    rw [h k (by omega) (by omega), find1_ext (fun i h1 h2 => h i (by omega) (by omega))]

theorem find1_list {α : Type} (q : α → Bool) (d : α) (l : List α) : ∀ (m k : Nat), k + m = l.length → find1 (fun i => q (l.getD i d)) m k = ((l.drop k).findIdx? q).map (· + k)
  | 0, k, h => by
    rw [List.drop_eq_nil_of_le (by omega)]
    rfl
  | m + 1, k, h => by
    have hk : k < l.length := by omega
    rw [List.drop_eq_getElem_cons hk, List.findIdx?_cons]
    simp only [find1]
    have e : l.getD k d = l[k] := by rw [List.getD_eq_getElem?_getD, List.getElem?_eq_getElem hk, Option.getD_some]
    simp only [e]
    split
    · simp
    · rw [find1_list q d l m (k + 1) (by omega)]
      cases (l.drop (k + 1)).findIdx? q with
      | none => rfl
      | some j => simp; omega

/-- a search through a list -/
theorem search_list {ρ α : Type} {N : Nat} {a b : Int} (l : List α) (q : α → Bool) (d : α) (hN : l.length < N) (hn : l.length < 9223372036854775807) (ha : a = l.length) (hb : b = l.length) {p : Int → Bool} (hp : ∀ i : Int, p i = q (l.getD i.toNat d)) (found : Int → Option ρ) (rest : Option ρ) :
    fixN N (fun again (i : Int) => br (decide (i < a)) (chk (decide (0 ≤ i) && decide (i < b)) (br (p i) (found i) (again (IntKind.i64.wrap (i + 1))))) rest) 0 =
      match l.findIdx? q with
      | some k => found k
      | none => rest := by
  rw [search_up (n := l.length) hN hn ha hb]
  have : find1 (fun k => p k) l.length 0 = l.findIdx? q := by
    rw [find1_ext (q := fun i => q (l.getD i d)) (fun i _ _ => by simp only [hp, Int.toNat_natCast]), find1_list q d l l.length 0 (by omega), List.drop_zero]
    cases l.findIdx? q with
    | none => rfl
    | some j => rfl
  rw [this]

end Go.Sh
