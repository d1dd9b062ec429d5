/- An instruction's text: the program's and the document's are the same. No condition beyond that it is right. -/
import Derived.Test.YtkcfkegkhopakaaGreatDoorPlNc
import Derived.Test.YtkcfkegkhopakaaGreatDoorPlX3
import Derived.Test.YtkcfkegkhopakaaGreatDoorPlAm
import Derived.Lib.Join
namespace Go.Proofs.YtkcfkegkhopakaaGreatDoor
open Go Go.Ev Go.Sh
set_option linter.unusedVariables false
set_option linter.unusedSimpArgs false
set_option maxRecDepth 100000

/-! ### the pieces -/
def regT (n : Nat) : List UInt8 := 120 :: Lib.itoa (n : Int)
def setT (p : Nat) : List UInt8 := ([[48], [119], [114], [114, 119], [111], [111, 119], [111, 114], [111, 114, 119], [105], [105, 119], [105, 114], [105, 114, 119], [105, 111], [105, 111, 119], [105, 111, 114], [105, 111, 114, 119]] : List (List UInt8)).getD p []
def annT (aq rl : Bool) : List UInt8 := if aq then (if rl then [46, 97, 113, 114, 108] else [46, 97, 113]) else (if rl then [46, 114, 108] else [])
/-- the parts of an instruction's text -/
def prt (k rd r1 r2 : Nat) (v : Int) (p s : Nat) : List (List UInt8) :=
  bif decide (srt k = 1) then [regT rd, Lib.itoa v] else
  bif decide (srt k = 2) then (bif decide ((k : Int) = 3) then [regT rd, Lib.itoa v] else [regT rd, regT r1, Lib.itoa v]) else
  bif decide (srt k = 6) then [regT rd, regT r1, Lib.itoa v] else
  bif decide (srt k = 3) then [regT r1, regT r2, Lib.itoa v] else
  bif decide (srt k = 4) then [regT rd, Lib.itoa v ++ [40] ++ regT r1 ++ [41]] else
  bif decide (srt k = 5) then [regT r2, Lib.itoa v ++ [40] ++ regT r1 ++ [41]] else
  bif decide (srt k = 7) then [regT rd, regT r1, regT r2] else
  bif decide (srt k = 8) then (bif decide ((k : Int) = 50) then [setT p, setT s] else []) else
  bif decide (srt k = 10) then [regT rd, [40] ++ regT r1 ++ [41]] else
  bif decide (srt k = 11) || decide (srt k = 12) then [regT rd, regT r2, [40] ++ regT r1 ++ [41]] else []

def txt (k rd r1 r2 : Nat) (v : Int) (aq rl : Bool) (p s : Nat) : List UInt8 :=
  if prt k rd r1 r2 v p s = [] then nam k ++ annT aq rl else nam k ++ annT aq rl ++ [32] ++ Lib.join (prt k rd r1 r2 v p s) [44, 32]

/-! ### lengths -/
theorem itoa_len {v : Int} (hv : I64 v) : (Lib.itoa v).length ≤ 20 := by
  obtain ⟨neg, d, h1, _, _, h2⟩ := itoa_okd hv
  rw [h1]
  unfold sgn
  split
  · simp only [List.length_cons]; omega
  · omega
theorem nat_I64 {n : Nat} (h : n < 32) : I64 (n : Int) := ⟨by omega, by omega⟩
theorem reg_len {n : Nat} (h : n < 32) : (regT n).length ≤ 3 := by
  unfold regT
  have := small_len (v := (n : Int)) (by omega) (by omega)
  simp only [List.length_cons]; omega
theorem nam_len (k : Nat) : (nam k).length ≤ 20 := by
  by_cases h : k < 76
  · have : ((List.range 76).all fun k => Nat.ble (nam k).length 20) = true := by decide
    exact Nat.le_of_ble_eq_true (List.all_eq_true.1 this k (List.mem_range.2 h))
  · unfold nam; rw [List.getD_eq_getElem?_getD, List.getElem?_eq_none (by show 76 ≤ k; omega)]; simp
theorem ann_len (aq rl : Bool) : (annT aq rl).length ≤ 5 := by cases aq <;> cases rl <;> decide
theorem set_len (p : Nat) : (setT p).length ≤ 4 := by
  by_cases h : p < 16
  · have : ((List.range 16).all fun p => Nat.ble (setT p).length 4) = true := by decide
    exact Nat.le_of_ble_eq_true (List.all_eq_true.1 this p (List.mem_range.2 h))
  · unfold setT; rw [List.getD_eq_getElem?_getD, List.getElem?_eq_none (by show 16 ≤ p; omega)]; simp

theorem chkL {ρ : Type} {a : Nat} {r : Option ρ} (h : a ≤ 9223372036854775807) : chk (decide (a ≤ 9223372036854775807)) r = r := chk_true (decide_eq_true h)

/-! ### the pieces, as the functions print them -/
theorem reg_is (N : Nat) {n : Nat} (h : n < 32) : F147 N (n : Int) = some (regT n) := by
  unfold F147 R147 F59
  unfold itoaS
  have hv := nat_I64 h
  have hl := itoa_len hv
  rw [chk_true (i64B_of hv), bindS_some, itoaF_is hv.1 hv.2, chkL (by simp only [List.length_cons, List.length_nil]; omega)]
  rfl
theorem rReg_is {N : Nat} (hN : 100 ≤ N) {n : Nat} (h : n < 32) : F48 N (n : Int) = some (Lib.itoa (n : Int)) := Digits_is hN (nat_I64 h)

noncomputable def chkSet (N p : Nat) : Bool := F148 N p == some (setT p)
theorem chkSet_all (M : Nat) : ((List.range 16).all fun p => chkSet (M + 100) p) = true := by kernel_rfl
theorem set_is {N : Nat} (hN : 100 ≤ N) {p : Nat} (h : p < 16) : F148 N p = some (setT p) := by
  obtain ⟨M, rfl⟩ : ∃ M, N = M + 100 := ⟨N - 100, by omega⟩
  have := List.all_eq_true.1 (chkSet_all M) p (List.mem_range.2 h)
  simp only [chkSet, beq_iff_eq] at this
  exact this
noncomputable def chkSetR (N p : Nat) : Bool := F49 N p == some (setT p)
theorem chkSetR_all (M : Nat) : ((List.range 16).all fun p => chkSetR (M + 100) p) = true := by kernel_rfl
theorem rSet_is {N : Nat} (hN : 100 ≤ N) {p : Nat} (h : p < 16) : F49 N p = some (setT p) := by
  obtain ⟨M, rfl⟩ : ∃ M, N = M + 100 := ⟨N - 100, by omega⟩
  have := List.all_eq_true.1 (chkSetR_all M) p (List.mem_range.2 h)
  simp only [chkSetR, beq_iff_eq] at this
  exact this
noncomputable def chkN (N k : Nat) : Bool := F149 N k == some (nam k)
theorem chkN_all (M : Nat) : ((List.range 76).all fun k => chkN (M + 100) k) = true := by kernel_rfl
theorem Name_is {N : Nat} (hN : 100 ≤ N) {k : Nat} (h : k ≤ 75) : F149 N k = some (nam k) := by
  obtain ⟨M, rfl⟩ : ∃ M, N = M + 100 := ⟨N - 100, by omega⟩
  have := List.all_eq_true.1 (chkN_all M) k (List.mem_range.2 (by omega))
  simp only [chkN, beq_iff_eq] at this
  exact this

theorem name_is {N : Nat} (hN : 100 ≤ N) {k : Nat} (h : k ≤ 75) (rest : Int × Int × Int × Int × Bool × Bool × Int × Int) : F94 N ((k : Int), rest) = some (nam k ++ annT rest.2.2.2.2.1 rest.2.2.2.2.2.1) := by
  unfold F94 R94
  have hl := nam_len k
  rw [Name_is hN h, bindS_some]
  simp only [jp_eq]
  obtain ⟨_, _, _, _, aq, rl, _, _⟩ := rest
  cases aq <;> cases rl <;> simp only [br_t, br_f, annT, if_true, if_false, Bool.false_eq_true, List.append_nil] <;> first
    | rfl
    | (rw [chkL (by simp only [List.length_cons, List.length_nil]; omega)])

theorem prt_is {N : Nat} (hN : 100 ≤ N) {x : Ins} {k rd r1 r2 : Nat} {v : Int} {aq rl : Bool} {p s : Nat} (h : Rt x k rd r1 r2 v aq rl p s) (hv : I64 v) : F93 N x = some (prt k rd r1 r2 v p s) := by
  have l0 := itoa_len hv
  have l1 := reg_len h.rd1
  have l2 := reg_len h.r11
  have l3 := reg_len h.r21
  rw [h.eq]
  unfold F93 R93 F89
  unfold fintS
  simp only
  rw [chk_true (by rw [i64B_of hv]; rfl), bindS_some, itoaF_is hv.1 hv.2, Sort_is hN, bindS_some]
  simp only [jp_eq, reg_is N h.rd1, reg_is N h.r11, reg_is N h.r21, bindS_some, set_is hN h.ps.1, set_is hN h.ps.2]
  simp only [List.length_append, List.length_cons, List.length_nil]
  repeat rw [chkL (by omega)]
  unfold prt
  generalize decide ((k : Int) = 3) = b3
  generalize decide ((k : Int) = 50) = b50
  obtain hs | hs | hs | hs | hs | hs | hs | hs | hs | hs | hs | hs | hs := srt_cases k
  all_goals (rw [hs]; cases b3 <;> cases b50 <;> rfl)

theorem join3 (a b c s : List UInt8) : Lib.join [a, b, c] s = a ++ s ++ b ++ s ++ c := by simp [Lib.join, List.intercalate, List.intersperse]
theorem join2 (a b s : List UInt8) : Lib.join [a, b] s = a ++ s ++ b := by simp [Lib.join, List.intercalate, List.intersperse]

theorem prt_join {k rd r1 r2 : Nat} {v : Int} {p s : Nat} (h1 : rd < 32) (h2 : r1 < 32) (h3 : r2 < 32) (hv : I64 v) : (prt k rd r1 r2 v p s).length ≤ 3 ∧ (Lib.join (prt k rd r1 r2 v p s) [44, 32]).length ≤ 100 := by
  have l0 := itoa_len hv
  have l1 := reg_len h1
  have l2 := reg_len h2
  have l3 := reg_len h3
  have l4 := set_len p
  have l5 := set_len s
  unfold prt
  generalize decide ((k : Int) = 3) = b3
  generalize decide ((k : Int) = 50) = b50
  obtain hs | hs | hs | hs | hs | hs | hs | hs | hs | hs | hs | hs | hs := srt_cases k
  all_goals rw [hs]; cases b3 <;> cases b50 <;> refine ⟨Nat.le_of_ble_eq_true rfl, ?_⟩ <;> first
    | (show (Lib.join [] _).length ≤ 100; decide)
    | (show (Lib.join [_, _, _] _).length ≤ 100; rw [join3]; simp only [List.length_append, List.length_cons, List.length_nil]; omega)
    | (show (Lib.join [_, _] _).length ≤ 100; rw [join2]; simp only [List.length_append, List.length_cons, List.length_nil]; omega)

theorem text_is {N : Nat} (hN : 100 ≤ N) {x : Ins} {k rd r1 r2 : Nat} {v : Int} {aq rl : Bool} {p s : Nat} (h : Rt x k rd r1 r2 v aq rl p s) (hv : I64 v) : F39 N x = some (txt k rd r1 r2 v aq rl p s) := by
  obtain ⟨j1, j2⟩ := prt_join (k := k) (p := p) (s := s) h.rd1 h.r11 h.r21 hv
  have hl := nam_len k
  have hl2 := ann_len aq rl
  unfold F39 R39 F95
  unfold joinS
  rw [prt_is hN h hv, bindS_some, h.eq, name_is hN h.k2, bindS_some, bindS_some]
  simp only
  unfold txt
  by_cases h0 : prt k rd r1 r2 v p s = []
  · rw [if_pos h0, brT (by rw [h0]; rfl)]
  · have hne : (prt k rd r1 r2 v p s).length ≠ 0 := fun e => h0 (List.eq_nil_of_length_eq_zero e)
    rw [if_neg h0, brF (by omega), chkL (by simp only [List.length_append, List.length_cons, List.length_nil]; omega), chk_true (by rw [Bool.and_eq_true]; exact ⟨decide_eq_true (by omega), decide_eq_true (by omega)⟩), bindS_some, chkL (by simp only [List.length_append, List.length_cons, List.length_nil]; omega)]

theorem rText_is {N : Nat} (hN : 100 ≤ N) {x : Ins} {k rd r1 r2 : Nat} {v : Int} {aq rl : Bool} {p s : Nat} (h : Rt x k rd r1 r2 v aq rl p s) (hv : I64 v) : F15 N x = some (txt k rd r1 r2 v aq rl p s) := by
  have t := siz_ok hN (k := k) h.k2
  have l0 := itoa_len hv
  have l1 := reg_len h.rd1
  have l2 := reg_len h.r11
  have l3 := reg_len h.r21
  have l4 := set_len p
  have l5 := set_len s
  have hl := nam_len k
  have hl2 := ann_len aq rl
  have k1 := h.k1
  rw [h.eq]
  unfold F15 R15
  simp only
  rw [t.srtR, bindS_some, t.namR, bindS_some]
  have reg : ∀ {ρ : Type} {n : Nat}, n < 32 → ∀ G : List UInt8 → Option ρ, bindS (F48 N (n : Int)) (fun y => chk (decide (([120] : List UInt8).length + y.length ≤ 9223372036854775807)) (G y)) = G (Lib.itoa (n : Int)) := by
    intro ρ n hn G
    have := reg_len hn
    unfold regT at this
    simp only [List.length_cons] at this
    rw [rReg_is hN hn, bindS_some, chkL (by simp only [List.length_cons, List.length_nil]; omega)]
  have ann : ∀ {ρ : Type} (G : List UInt8 → Option ρ), jp (fun (y2 : List UInt8) => jp (fun (y3 : List UInt8) => jp G
              (fun K15 => br rl
              (chk (decide (y3.length + ([114, 108] : List UInt8).length ≤ 9223372036854775807)) (K15 (y3 ++ ([114, 108] : List UInt8))))
              (K15 y3)))
              (fun K16 => br aq
              (chk (decide (y2.length + ([97, 113] : List UInt8).length ≤ 9223372036854775807)) (K16 (y2 ++ ([97, 113] : List UInt8))))
              (K16 y2)))
              (fun K17 => jp (fun (y18 : Bool) => br y18
              (chk (decide ((nam k).length + ([46] : List UInt8).length ≤ 9223372036854775807)) (K17 (nam k ++ ([46] : List UInt8))))
              (K17 (nam k)))
              (fun K19 => br aq
              (K19 true)
              (K19 rl))) = G (nam k ++ annT aq rl) := by
    intro ρ G
    simp only [jp_eq]
    cases aq <;> cases rl <;> simp only [br_t, br_f, annT, if_true, if_false, Bool.false_eq_true, List.append_nil]
    · rw [chkL (by simp only [List.length_cons, List.length_nil]; omega), chkL (by simp only [List.length_append, List.length_cons, List.length_nil]; omega), List.append_assoc]; rfl
    · rw [chkL (by simp only [List.length_cons, List.length_nil]; omega), chkL (by simp only [List.length_append, List.length_cons, List.length_nil]; omega), List.append_assoc]; rfl
    · rw [chkL (by simp only [List.length_cons, List.length_nil]; omega), chkL (by simp only [List.length_append, List.length_cons, List.length_nil]; omega), chkL (by simp only [List.length_append, List.length_cons, List.length_nil]; omega), List.append_assoc, List.append_assoc]; rfl
  refine (ann _).trans ?_
  generalize hnm : nam k ++ annT aq rl = nm
  have hnl : nm.length ≤ 25 := by rw [← hnm, List.length_append]; omega
  rw [reg h.rd1, reg h.r11, reg h.r21, Digits_is hN hv, bindS_some]
  simp only [jp_eq, rSet_is hN h.ps.1, rSet_is hN h.ps.2, bindS_some]
  have e1 : ∀ n : Nat, ([120] : List UInt8) ++ Lib.itoa (n : Int) = regT n := fun _ => rfl
  simp only [e1, List.length_append, List.length_cons, List.length_nil]
  repeat rw [chkL (by omega)]
  have g3 : decide ((k : Int) = 3) = true → srt k = 2 := by
    intro h
    rw [of_decide_eq_true h]; decide
  have g50 : decide ((k : Int) = 50) = true → srt k = 8 := by
    intro h
    rw [of_decide_eq_true h]; decide
  unfold txt prt
  rw [hnm]
  generalize decide ((k : Int) = 3) = b3 at *
  generalize decide ((k : Int) = 50) = b50 at *
  obtain hs | hs | hs | hs | hs | hs | hs | hs | hs | hs | hs | hs | hs := srt_cases k
  all_goals (rw [hs]; cases b3 <;> cases b50 <;> first
    | (exact absurd ((g3 rfl).symm.trans hs) (by decide))
    | (exact absurd ((g50 rfl).symm.trans hs) (by decide))
    | (show some _ = some (nm ++ [32] ++ Lib.join [_, _, _] _); rw [join3]; simp only [List.append_assoc, List.cons_append, List.nil_append])
    | (show some _ = some (nm ++ [32] ++ Lib.join [_, _] _); rw [join2]; simp only [List.append_assoc, List.cons_append, List.nil_append])
    | (show some nm = some nm; rfl))
end Go.Proofs.YtkcfkegkhopakaaGreatDoor
