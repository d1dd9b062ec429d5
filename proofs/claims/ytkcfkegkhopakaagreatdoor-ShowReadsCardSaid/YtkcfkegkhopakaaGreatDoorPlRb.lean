/- A text's guess: it always comes to one; the guess of an instruction's text is the instruction. No condition beyond a text's length. -/
import Derived.Test.YtkcfkegkhopakaaGreatDoorPlRa
namespace Go.Proofs.YtkcfkegkhopakaaGreatDoor
open Go Go.Ev Go.Sh
set_option linter.unusedVariables false
set_option linter.unusedSimpArgs false
set_option maxRecDepth 100000

/-! ### operations by names -/
theorem ByName_t {N : Nat} (hN : 100 ≤ N) (s : List UInt8) : ∃ v, F155 N s = some v := by
  unfold F155 R155 F188
  rw [bindS_some]
  refine fixN_ind (fun m (y : Int) => ∃ i : Nat, y = (i : Int) ∧ i + m = 76) (fun _ o => ∃ v, o = some v) ?_ N 76 _ (by omega) ⟨0, rfl, rfl⟩
  rintro m y again ⟨i, rfl, hi⟩ ih
  rcases Nat.eq_zero_or_pos m with h0 | h0
  · rw [brF (by omega)]; exact ⟨_, rfl⟩
  · rw [brT (by omega), chk_true (by rw [Bool.and_eq_true]; exact ⟨decide_eq_true (by omega), decide_eq_true (by omega)⟩)]
    cases (List.getD _ (i : Int).toNat [] == s) with
    | true => exact ⟨_, rfl⟩
    | false =>
      rw [br_f, wrap64 (by omega) (by omega)]
      exact ih (m - 1) _ (by omega) ⟨i + 1, by omega, by omega⟩

theorem operation_t {N : Nat} (hN : 100 ≤ N) {s : List UInt8} (hs : s.length ≤ 1000) : ∃ x, F98 N s = some x := by
  unfold F98 R98
  refine fixN_ind (fun m (y : Int) => ∃ i : Nat, y = (i : Int) ∧ i + m = 3) (fun _ o => ∃ v, o = some v) ?_ N 3 _ (by omega) ⟨0, rfl, rfl⟩
  rintro m y again ⟨i, rfl, hi⟩ ih
  rcases Nat.eq_zero_or_pos m with h0 | h0
  · rw [brF (by omega)]
    obtain ⟨v, hv⟩ := ByName_t hN s
    rw [hv, bindS_some]; exact ⟨_, rfl⟩
  · rw [brT (by omega), chk_true (by rw [Bool.and_eq_true]; exact ⟨decide_eq_true (by omega), decide_eq_true (by omega)⟩), CutSuffix_is N hs, bindS_some]
    split
    · rw [br_t]
      obtain ⟨v, hv⟩ := ByName_t hN (List.take (s.length - (List.getD [(([46, 97, 113, 114, 108] : List UInt8), true, true), (([46, 97, 113] : List UInt8), true, false), (([46, 114, 108] : List UInt8), false, true)] (i : Int).toNat ([], false, false)).1.length) s)
      rw [hv, bindS_some]; exact ⟨_, rfl⟩
    · rw [br_f, wrap64 (by omega) (by omega)]
      exact ih (m - 1) _ (by omega) ⟨i + 1, by omega, by omega⟩

def opI (k : Nat) (aq rl : Bool) : Ins := ((k : Int), (0, (0, (0, (0, (aq, (rl, (0, 0))))))))
noncomputable def chkO (N k : Nat) (aq rl : Bool) : Bool := match F98 N (nam k ++ annT aq rl) with
  | some x => InsT.eq x (opI k aq rl)
  | none => false
theorem chkO_all (M : Nat) : ((List.range 75).all fun i => chkO (M + 100) (i + 1) false false) = true := by kernel_rfl
theorem chkO_aq (M : Nat) : ((List.range 22).all fun i => chkO (M + 100) (i + 54) true false) = true := by kernel_rfl
theorem chkO_rl (M : Nat) : ((List.range 22).all fun i => chkO (M + 100) (i + 54) false true) = true := by kernel_rfl
theorem chkO_ar (M : Nat) : ((List.range 22).all fun i => chkO (M + 100) (i + 54) true true) = true := by kernel_rfl
theorem operation_is {N : Nat} (hN : 100 ≤ N) {k : Nat} (h1 : 1 ≤ k) (h2 : k ≤ 75) {aq rl : Bool} (ha : k < 54 → aq = false ∧ rl = false) : F98 N (nam k ++ annT aq rl) = some (opI k aq rl) := by
  obtain ⟨M, rfl⟩ : ∃ M, N = M + 100 := ⟨N - 100, by omega⟩
  have key : chkO (M + 100) k aq rl = true := by
    by_cases h54 : k < 54
    · obtain ⟨rfl, rfl⟩ := ha h54
      have := List.all_eq_true.1 (chkO_all M) (k - 1) (List.mem_range.2 (by omega))
      rwa [show k - 1 + 1 = k by omega] at this
    · have e : k - 54 + 54 = k := by omega
      have a1 := List.all_eq_true.1 (chkO_all M) (k - 1) (List.mem_range.2 (by omega))
      have a2 := List.all_eq_true.1 (chkO_aq M) (k - 54) (List.mem_range.2 (by omega))
      have a3 := List.all_eq_true.1 (chkO_rl M) (k - 54) (List.mem_range.2 (by omega))
      have a4 := List.all_eq_true.1 (chkO_ar M) (k - 54) (List.mem_range.2 (by omega))
      rw [show k - 1 + 1 = k by omega] at a1
      rw [e] at a2 a3 a4
      cases aq <;> cases rl <;> assumption
  unfold chkO at key
  split at key
  · rename_i x hx
    rw [hx, (insEq _ _).1 key]
  · simp at key

/-! ### sets -/
theorem Contains_is (N : Nat) {s : List UInt8} (hs : s.length ≤ 1000) (t : List UInt8) : F158 N s t = some (decide (0 ≤ idxF s t 0)) := by
  unfold F158 R158 F194 R194 F191
  unfold indexS
  rw [chk_true (decide_eq_true (by show s.length < 4294967281; omega)), bindS_some, bindS_some]
theorem asSet_t {N : Nat} (hN : 100 ≤ N) {s : List UInt8} (hs : s.length ≤ 1000) : ∃ v, F103 N s = some v := by
  unfold F103 R103
  refine fixN_ind (fun m (y : Int × Int) => ∃ i : Nat, y.2 = (i : Int) ∧ i + m = 4) (fun _ o => ∃ v, o = some v) ?_ N 4 _ (by omega) ⟨0, rfl, rfl⟩
  rintro m ⟨a, y⟩ again ⟨i, hy, hi⟩ ih
  simp only at hy
  subst hy
  simp only [jp_eq]
  rcases Nat.eq_zero_or_pos m with h0 | h0
  · rw [brF (by omega)]; exact ⟨_, rfl⟩
  · have w1 : IntKind.i64.wrap ((i : Int) + 1) = ((i + 1 : Nat) : Int) := by rw [wrap64 (by omega) (by omega)]; omega
    rw [brT (by omega), w1, Int.toNat_natCast, Int.toNat_natCast, chk_true (by rw [decide_eq_true (by omega), decide_eq_true (by omega), Nat.ble_eq_true_of_le (by omega), Nat.ble_eq_true_of_le (by show i + 1 ≤ 4; omega)]; rfl), Contains_is N hs, bindS_some, chk_true (decide_eq_true (by omega))]
    cases decide (0 ≤ idxF s _ 0) with
    | true => exact ih (m - 1) _ (by omega) ⟨i + 1, rfl, by omega⟩
    | false => exact ih (m - 1) _ (by omega) ⟨i + 1, rfl, by omega⟩
noncomputable def chkA (N p : Nat) : Bool := F103 N (setT p) == some (p : Int)
theorem chkA_all (M : Nat) : ((List.range 16).all fun p => chkA (M + 100) p) = true := by kernel_rfl
theorem asSet_is {N : Nat} (hN : 100 ≤ N) {p : Nat} (h : p < 16) : F103 N (setT p) = some (p : Int) := by
  obtain ⟨M, rfl⟩ : ∃ M, N = M + 100 := ⟨N - 100, by omega⟩
  have := List.all_eq_true.1 (chkA_all M) p (List.mem_range.2 h)
  simp only [chkA, beq_iff_eq] at this
  exact this

/-! ### parts by their numbers -/
theorem rPart_is (N : Nat) {k : Nat} {l : List (List UInt8)} (hk : k < l.length) (hl : ∀ x ∈ l, x.length ≤ 1000) : F101 N (k : Int) l = some (regO (l.getD k [])).1 := by
  unfold F101 R101
  have hm : l.getD k [] ∈ l := by rw [List.getD_eq_getElem?_getD, List.getElem?_eq_getElem hk]; exact List.getElem_mem hk
  rw [chk_true (by rw [Bool.and_eq_true]; exact ⟨decide_eq_true (by omega), decide_eq_true (by omega)⟩), Int.toNat_natCast, Register_is N (hl _ hm), bindS_some]
theorem nPart_is (N : Nat) {k : Nat} {l : List (List UInt8)} (hk : k < l.length) (hl : ∀ x ∈ l, x.length ≤ 1000) : F102 N (k : Int) l = some (numO (l.getD k [])).1 := by
  unfold F102 R102
  have hm : l.getD k [] ∈ l := by rw [List.getD_eq_getElem?_getD, List.getElem?_eq_getElem hk]; exact List.getElem_mem hk
  rw [chk_true (by rw [Bool.and_eq_true]; exact ⟨decide_eq_true (by omega), decide_eq_true (by omega)⟩), Int.toNat_natCast, Number_is N (hl _ hm), bindS_some]

/-- what is made of an operation and parts -/
noncomputable def mkB (N : Nat) (s : Int) (y : Ins) (l : List (List UInt8)) : Ins :=
  let r (k : Nat) : Int := (regO (l.getD k [])).1
  let n (k : Nat) : Int := (numO (l.getD k [])).1
  let a (k : Nat) : Int := (F103 N (l.getD k [])).getD 0
  bif decide (s = 1) then (y.1, (r 0, (y.2.2.1, (y.2.2.2.1, (n 1, y.2.2.2.2.2))))) else
  bif decide (s = 2) then (bif decide (y.1 = 4) then (y.1, (r 0, (r 1, (y.2.2.2.1, (n 2, y.2.2.2.2.2))))) else (y.1, (r 0, (y.2.2.1, (y.2.2.2.1, (n 1, y.2.2.2.2.2)))))) else
  bif decide (s = 6) then (y.1, (r 0, (r 1, (y.2.2.2.1, (n 2, y.2.2.2.2.2))))) else
  bif decide (s = 3) then (y.1, (y.2.1, (r 0, (r 1, (n 2, y.2.2.2.2.2))))) else
  bif decide (s = 4) then (y.1, (r 0, (r 2, (y.2.2.2.1, (n 1, y.2.2.2.2.2))))) else
  bif decide (s = 5) then (y.1, (y.2.1, (r 2, (r 0, (n 1, y.2.2.2.2.2))))) else
  bif decide (s = 7) then (y.1, (r 0, (r 1, (r 2, y.2.2.2.2)))) else
  bif decide (s = 8) then (bif decide (y.1 = 50) then (y.1, (y.2.1, (y.2.2.1, (y.2.2.2.1, (y.2.2.2.2.1, (y.2.2.2.2.2.1, (y.2.2.2.2.2.2.1, (a 0, a 1)))))))) else y) else
  bif decide (s = 10) then (y.1, (r 0, (r 2, y.2.2.2))) else
  bif decide (s = 11) || decide (s = 12) then (y.1, (r 0, (r 3, (r 1, y.2.2.2.2)))) else y

noncomputable def mkG (N : Nat) (y : Ins) (l : List (List UInt8)) : Ins := mkB N (srt y.1) y l

/-- a fence of its own kind has its sets -/
def tso (y : Ins) : Ins := bif decide (y.1 = 51) then (y.1, (y.2.1, (y.2.2.1, (y.2.2.2.1, (y.2.2.2.2.1, (y.2.2.2.2.2.1, (y.2.2.2.2.2.2.1, (3, 3)))))))) else y

theorem guess_is {N : Nat} {s : List UInt8} (hs : s.length ≤ 900) (hN : 1002 ≤ N) {y : Ins} (hy : F98 N (spL 32 s).1 = some y) :
    F50 N s = some (mkG N (tso y) (cutG false [] (trimP (spL 32 s).2.1) ++ [[], [], []])) := by
  have hj := spL_join 32 s
  have hl : (spL 32 s).1.length ≤ s.length ∧ (spL 32 s).2.1.length ≤ s.length := by
    cases hb : (spL 32 s).2.2 with
    | true =>
      have := congrArg List.length (hj.1 hb)
      rw [List.length_append, List.length_cons] at this
      omega
    | false =>
      obtain ⟨h1, h2⟩ := hj.2 hb
      rw [h2, ← h1]
      exact ⟨Nat.le_refl _, Nat.zero_le _⟩
  have ht := trimP_len (spL 32 s).2.1
  have ht2 : F100 N (spL 32 s).2.1 [41] = some (trimP (spL 32 s).2.1) := TrimSuffix_is N (by omega) _
  unfold F50 R50
  rw [Cut_is N (by omega), bindS_some, hy, bindS_some]
  generalize hq : trimP (spL 32 s).2.1 = q at ht ht2 ⊢
  have hc1 := cutG_ne false q []
  have hc2 := cutG_len false q []
  have hc3 := cutG_mem false q []
  have hcut := cut_is (N := N) (s := q) (by omega) hN
  have hlen : 4 ≤ (cutG false [] q ++ [[], [], []]).length := by rw [List.length_append]; simp only [List.length_cons, List.length_nil]; omega
  have hmem : ∀ x ∈ cutG false [] q ++ [[], [], []], x.length ≤ 1000 := by
    intro x hx
    rw [List.mem_append] at hx
    rcases hx with hx | hx
    · have := hc3 x hx
      simp only [List.length_nil] at this
      omega
    · simp only [List.mem_cons, List.not_mem_nil, or_false] at hx
      rcases hx with rfl | rfl | rfl <;> simp
  have hlim : decide (((cutG false [] q).length + ([[], [], []] : List (List UInt8)).length) * 16 ≤ lim) = true := decide_eq_true (by simp only [List.length_cons, List.length_nil, lim]; omega)
  generalize hL : cutG false [] q ++ [[], [], []] = l at hlen hmem ⊢
  have rP : ∀ k : Nat, k < 4 → F101 N (k : Int) l = some (regO (l.getD k [])).1 := fun k hk => rPart_is N (by omega) hmem
  have nP : ∀ k : Nat, k < 4 → F102 N (k : Int) l = some (numO (l.getD k [])).1 := fun k hk => nPart_is N (by omega) hmem
  have aP : ∀ k : Nat, k < 4 → F103 N (l.getD k []) = some ((F103 N (l.getD k [])).getD 0) := by
    intro k hk
    have hm : l.getD k [] ∈ l := by rw [List.getD_eq_getElem?_getD, List.getElem?_eq_getElem (by omega)]; exact List.getElem_mem _
    obtain ⟨v, hv⟩ := asSet_t (N := N) (by omega) (hmem _ hm)
    rw [hv]; rfl
  have r0 : F101 N 0 l = some (regO (l.getD 0 [])).1 := rP 0 (by omega)
  have r1 : F101 N 1 l = some (regO (l.getD 1 [])).1 := rP 1 (by omega)
  have r2 : F101 N 2 l = some (regO (l.getD 2 [])).1 := rP 2 (by omega)
  have r3 : F101 N 3 l = some (regO (l.getD 3 [])).1 := rP 3 (by omega)
  have n1 : F102 N 1 l = some (numO (l.getD 1 [])).1 := nP 1 (by omega)
  have n2 : F102 N 2 l = some (numO (l.getD 2 [])).1 := nP 2 (by omega)
  have a0 := aP 0 (by omega)
  have a1 := aP 1 (by omega)
  have c0 : decide ((0 : Int) < (l.length : Int)) = true := decide_eq_true (by omega)
  have c1 : decide ((1 : Int) < (l.length : Int)) = true := decide_eq_true (by omega)
  unfold tso
  simp only [jp_eq]
  have go : ∀ b : Bool, ∀ A B : Option Ins, ∀ X Y : Ins, A = some (mkG N X l) → B = some (mkG N Y l) → br b A B = some (mkG N (bif b then X else Y) l) := by
    intro b A B X Y h1 h2
    cases b
    · exact h2
    · exact h1
  refine go _ _ _ _ _ ?_ ?_
  all_goals
    rw [ht2, bindS_some, hcut, bindS_some, chk_true hlim, Sort_is (by omega), bindS_some, hL]
    unfold mkG
    simp only [r0, r1, r2, r3, n1, n2, bindS_some, c0, c1, chk_true]
    rw [a0, a1]
    simp only [bindS_some, Option.getD_some]
    obtain hs | hs | hs | hs | hs | hs | hs | hs | hs | hs | hs | hs | hs := srt_cases y.1
    all_goals (rw [hs]; unfold mkB; simp only; generalize decide (y.1 = 4) = b4; generalize decide (y.1 = 50) = b50; cases b4 <;> cases b50 <;> rfl)
end Go.Proofs.YtkcfkegkhopakaaGreatDoor
