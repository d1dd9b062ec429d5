/- What is stored: the program's and the document's are the same. No condition beyond a word's size. -/
import Derived.Test.YtkcfkegkhopakaaGreatDoorPlAn
namespace Go.Proofs.YtkcfkegkhopakaaGreatDoor
open Go Go.Ev Go.Sh
set_option linter.unusedVariables false
set_option linter.unusedSimpArgs false
set_option maxRecDepth 100000

noncomputable def refO (G : Int → Int → Option Int) (c : Nat) (p q u v n : Int) : Option Int :=
  bif c.beq 0 then G q n else bif c.beq 1 then G (IntKind.u64.wrap (p + q)) n else bif c.beq 2 then G (IntKind.u64.wrap (bits .or .u64 p q - bits .and .u64 p q)) n else bif c.beq 3 then G (bits .and .u64 p q) n else
  bif c.beq 4 then G (IntKind.u64.wrap (IntKind.u64.wrap (p + q) - bits .and .u64 p q)) n else bif c.beq 5 then br (decide (IntKind.i64.wrap p < IntKind.i64.wrap q)) (G p n) (G q n) else
  bif c.beq 6 then br (decide (IntKind.i64.wrap q < IntKind.i64.wrap p)) (G p n) (G q n) else bif c.beq 7 then br (decide (u < v)) (G u n) (G q n) else br (decide (v < u)) (G u n) (G q n)
def proO (c : Nat) (p q u v : Int) : Int :=
  bif c.beq 0 then q else bif c.beq 1 then IntKind.u64.wrap (p + q) else bif c.beq 2 then bits .xor .u64 p q else bif c.beq 3 then bits .and .u64 p q else bif c.beq 4 then bits .or .u64 p q else
  bif c.beq 5 then IntKind.u64.wrap (if IntKind.i64.wrap q < IntKind.i64.wrap p then IntKind.i64.wrap q else IntKind.i64.wrap p) else
  bif c.beq 6 then IntKind.u64.wrap (if IntKind.i64.wrap q > IntKind.i64.wrap p then IntKind.i64.wrap q else IntKind.i64.wrap p) else
  bif c.beq 7 then (if v < u then v else u) else (if v > u then v else u)

def knd (j : Nat) : Nat := bif Nat.ble 9 j then j - 9 else j

theorem u_i {x : Nat} (hx : x < 18446744073709551616) : IntKind.u64.wrap (IntKind.i64.wrap (x : Int)) = x := by
  rw [i64_wrap_eq, u64_wrap_eq]; split <;> omega
theorem i_inj {x y : Nat} (hx : x < 18446744073709551616) (hy : y < 18446744073709551616) (h : IntKind.i64.wrap (x : Int) = IntKind.i64.wrap (y : Int)) : x = y := by
  have := u_i hx
  rw [h, u_i hy] at this
  omega

theorem ext_eq {N : Nat} (hN : 100 ≤ N) {A B n : Nat} (hn : n ≤ 64) (hA : A < 18446744073709551616) (hB : B < 18446744073709551616) (h : A % 2 ^ n = B % 2 ^ n) : F35 N A n = F70 N B n := by
  rw [rZext_is hN hA hn, Zext_full N hB hn, h]

theorem atomic_same {N : Nat} (hN : 100 ≤ N) {n : Nat} (h1 : 1 ≤ n) (hn : n ≤ 64) {x y : Nat} (hx : x < 18446744073709551616) (hy : y < 18446744073709551616) {c : Nat} (hc : c ≤ 8) :
    refO (F35 N) c (sx x n : Nat) (sx y n : Nat) (x % 2 ^ n : Nat) (y % 2 ^ n : Nat) n = F70 N (proO c (sx x n : Nat) (sx y n : Nat) (x % 2 ^ n : Nat) (y % 2 ^ n : Nat)) n := by
  have hp := sx_lt (x := x) hn
  have hq := sx_lt (x := y) hn
  have mp := sx_mod (x := x) hn
  have mq := sx_mod (x := y) hn
  have hu : x % 2 ^ n < 18446744073709551616 := Nat.lt_of_le_of_lt (Nat.mod_le _ _) hx
  have hv : y % 2 ^ n < 18446744073709551616 := Nat.lt_of_le_of_lt (Nat.mod_le _ _) hy
  have mu : x % 2 ^ n % 2 ^ n = x % 2 ^ n := Nat.mod_mod _ _
  have mv : y % 2 ^ n % 2 ^ n = y % 2 ^ n := Nat.mod_mod _ _
  generalize sx x n = p at *
  generalize sx y n = q at *
  generalize x % 2 ^ n = u at *
  generalize y % 2 ^ n = v at *
  have hup := u_i hp
  have huq := u_i hq
  obtain rfl | rfl | rfl | rfl | rfl | rfl | rfl | rfl | rfl : c = 0 ∨ c = 1 ∨ c = 2 ∨ c = 3 ∨ c = 4 ∨ c = 5 ∨ c = 6 ∨ c = 7 ∨ c = 8 := by omega
  · show F35 N q n = F70 N q n
    exact ext_eq hN hn hq hq rfl
  · show F35 N (IntKind.u64.wrap (p + q)) n = F70 N (IntKind.u64.wrap (p + q)) n
    obtain ⟨m, g1, g2⟩ := wrap_nat ((p : Int) + q)
    rw [g2]; exact ext_eq hN hn g1 g1 rfl
  · show F35 N _ n = F70 N (bits .xor .u64 p q) n
    rw [dxor hp hq, xor64 hp hq]
    have : p ^^^ q < 18446744073709551616 := Nat.xor_lt_two_pow (n := 64) hp hq
    exact ext_eq hN hn this this rfl
  · show F35 N (bits .and .u64 p q) n = F70 N (bits .and .u64 p q) n
    rw [and64 hp hq]
    have : p &&& q < 18446744073709551616 := Nat.lt_of_le_of_lt Nat.and_le_left hp
    exact ext_eq hN hn this this rfl
  · show F35 N _ n = F70 N (bits .or .u64 p q) n
    rw [dor hp hq, or64 hp hq]
    have : p ||| q < 18446744073709551616 := Nat.or_lt_two_pow (n := 64) hp hq
    exact ext_eq hN hn this this rfl
  · show br (decide (IntKind.i64.wrap p < IntKind.i64.wrap q)) (F35 N p n) (F35 N q n) = F70 N (IntKind.u64.wrap (if IntKind.i64.wrap q < IntKind.i64.wrap p then IntKind.i64.wrap q else IntKind.i64.wrap p)) n
    by_cases h : IntKind.i64.wrap (p : Int) < IntKind.i64.wrap (q : Int)
    · rw [brT h, if_neg (by omega), hup]; exact ext_eq hN hn hp hp rfl
    · rw [brF h]
      by_cases h2 : IntKind.i64.wrap (q : Int) < IntKind.i64.wrap (p : Int)
      · rw [if_pos h2, huq]; exact ext_eq hN hn hq hq rfl
      · rw [if_neg h2, hup]
        have := i_inj hp hq (by omega)
        subst this
        exact ext_eq hN hn hp hp rfl
  · show br (decide (IntKind.i64.wrap q < IntKind.i64.wrap p)) (F35 N p n) (F35 N q n) = F70 N (IntKind.u64.wrap (if IntKind.i64.wrap q > IntKind.i64.wrap p then IntKind.i64.wrap q else IntKind.i64.wrap p)) n
    by_cases h : IntKind.i64.wrap (q : Int) < IntKind.i64.wrap (p : Int)
    · rw [brT h, if_neg (by omega), hup]; exact ext_eq hN hn hp hp rfl
    · rw [brF h]
      by_cases h2 : IntKind.i64.wrap (q : Int) > IntKind.i64.wrap (p : Int)
      · rw [if_pos h2, huq]; exact ext_eq hN hn hq hq rfl
      · rw [if_neg h2, hup]
        have := i_inj hp hq (by omega)
        subst this
        exact ext_eq hN hn hp hp rfl
  · show br (decide ((u : Int) < v)) (F35 N u n) (F35 N q n) = F70 N (if (v : Int) < u then (v : Int) else u) n
    by_cases h : (u : Int) < v
    · rw [brT h, if_neg (by omega)]; exact ext_eq hN hn hu hu rfl
    · rw [brF h]
      by_cases h2 : (v : Int) < u
      · rw [if_pos h2]; exact ext_eq hN hn hq hv (by rw [mq, mv])
      · rw [if_neg h2]; exact ext_eq hN hn hq hu (by rw [mq, mu]; omega)
  · show br (decide ((v : Int) < u)) (F35 N u n) (F35 N q n) = F70 N (if (v : Int) > u then (v : Int) else u) n
    by_cases h : (v : Int) < u
    · rw [brT h, if_neg (by omega)]; exact ext_eq hN hn hu hu rfl
    · rw [brF h]
      by_cases h2 : (v : Int) > u
      · rw [if_pos h2]; exact ext_eq hN hn hq hv (by rw [mq, mv])
      · rw [if_neg h2]; exact ext_eq hN hn hq hu (by rw [mq, mu]; omega)

theorem proAt {N : Nat} (p q u v n : Int) (h1 : F70 N p n = some u) (h2 : F70 N q n = some v) : AllN (fun j => F126 N ((58 + j : Nat) : Int) p q n = some (proO (knd j) p q u v)) 18 := by
  unfold F126 R126
  simp only [h1, h2, bindS_some]
  iterate 18 refine AllN.mk ?_ (by show _ = _; kernel_rfl)
  exact trivial

/-- the document's, of one kind -/
theorem refAt {N : Nat} (hN : 100 ≤ N) (j : Nat) (hj : j < 18) {x y n : Nat} (hn : (8 * siz (58 + j)) = n) (h1 : 1 ≤ n) (hn2 : n ≤ 64) (hx : x < 18446744073709551616) (hy : y < 18446744073709551616) :
    F80 N ((58 + j : Nat) : Int) x y = refO (F35 N) (knd j) (sx x n : Nat) (sx y n : Nat) (x % 2 ^ n : Nat) (y % 2 ^ n : Nat) n := by
  have t := siz_ok hN (k := 58 + j) (by omega)
  have hs : srt ((58 + j : Nat) : Int) = 12 := by
    have : AllN (fun j => srt ((58 + j : Nat) : Int) = 12) 18 := by
      iterate 18 refine AllN.mk ?_ (by show _ = _; decide)
      exact trivial
    exact this.get j hj
  have e : IntKind.i64.wrap (8 * (siz (58 + j) : Int)) = (n : Int) := by rw [wrap64 (by omega) (by omega)]; omega
  have hl := rLow_is N (sx_lt (x := x) hn2) (sx_lt (x := y) hn2)
  have hl2 := rLow_is N (sx_lt (x := y) hn2) (sx_lt (x := x) hn2)
  unfold F80 R80
  rw [t.srtR, bindS_some, t.sizR, bindS_some]
  simp only [jp_eq, hs, e, rSext_is hN hx h1 hn2, rSext_is hN hy h1 hn2, rZext_is hN hx hn2, rZext_is hN hy hn2, t.namR, bindS_some, hl, hl2, bindS_id]
  generalize F35 N = G
  generalize ((sx x n : Nat) : Int) = p
  generalize ((sx y n : Nat) : Int) = q
  generalize ((x % 2 ^ n : Nat) : Int) = u
  generalize ((y % 2 ^ n : Nat) : Int) = v
  clear hn e hs hl hl2 t
  revert hj
  revert j
  refine AllN.get ?_
  iterate 18 refine AllN.mk ?_ (by show _ = _; kernel_rfl)
  exact trivial

theorem Stored_eq {N : Nat} (hN : 100 ≤ N) {k : Nat} (hk : k ≤ 75) {x y : Nat} (hx : x < 18446744073709551616) (hy : y < 18446744073709551616) : F80 N (k : Int) x y = F74 N (k : Int) x y := by
  have t := siz_ok hN hk
  have hsz := siz_cases k
  have e : IntKind.i64.wrap (8 * (siz k : Int)) = ((8 * siz k : Nat) : Int) := by rw [wrap64 (by omega) (by omega)]; omega
  by_cases h : 58 ≤ k
  · obtain ⟨j, rfl⟩ : ∃ j, k = 58 + j := ⟨k - 58, by omega⟩
    have hs : srt ((58 + j : Nat) : Int) = 12 ∧ 4 ≤ siz (58 + j) := by
      have : AllN (fun j => srt ((58 + j : Nat) : Int) = 12 ∧ 4 ≤ siz (58 + j)) 18 := by
        iterate 18 refine AllN.mk ?_ (by show _ ∧ _; decide)
        exact trivial
      exact this.get j (by omega)
    obtain ⟨hs, hz⟩ := hs
    rw [refAt hN j (by omega) rfl (by omega) (by omega) hx hy, atomic_same hN (by omega) (by omega) hx hy (by unfold knd; cases h9 : Nat.ble 9 j with
      | true => show j - 9 ≤ 8; omega
      | false => show j ≤ 8; have : ¬ 9 ≤ j := fun h => by rw [Nat.ble_eq_true_of_le h] at h9; cases h9
                 omega)]
    have hA := (proAt (N := N) ((sx x (8 * siz (58 + j)) : Nat) : Int) ((sx y (8 * siz (58 + j)) : Nat) : Int) ((x % 2 ^ (8 * siz (58 + j)) : Nat) : Int) ((y % 2 ^ (8 * siz (58 + j)) : Nat) : Int) ((8 * siz (58 + j) : Nat) : Int)
      (by rw [Zext_full N (sx_lt (by omega)) (by omega), sx_mod (by omega)]) (by rw [Zext_full N (sx_lt (by omega)) (by omega), sx_mod (by omega)])).get j (by omega)
    unfold F74 R74
    rw [t.sizP, bindS_some, t.srtP, bindS_some]
    simp only [jp_eq, e, bindS_id]
    rw [hs, Sext_full N hx (by omega) (by omega), bindS_some, Sext_full N hy (by omega) (by omega), bindS_some, hA, bindS_some]
    rfl
  · unfold F80 R80 F74 R74
    rw [t.srtR, bindS_some, t.sizR, bindS_some, t.sizP, bindS_some, t.srtP, bindS_some]
    simp only [jp_eq, e, bindS_id]
    have hs : srt (k : Int) ≠ 12 := by
      have : ((List.range 58).all fun k => !decide (srt (k : Int) = 12)) = true := by decide
      have := List.all_eq_true.1 this k (List.mem_range.2 (by omega))
      simpa using this
    rw [rZext_is hN hy (by omega), Zext_full N hy (by omega)]
    obtain h | h | h | h | h | h | h | h | h | h | h | h | h := srt_cases k <;> first | (exact absurd h hs) | (rw [h]; rfl)
end Go.Proofs.YtkcfkegkhopakaaGreatDoor
