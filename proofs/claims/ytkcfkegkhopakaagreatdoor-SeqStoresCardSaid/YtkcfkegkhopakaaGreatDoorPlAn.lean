/- Results, branches, addresses, what is loaded and stored: the program's and the document's are the same, of every operation. No condition beyond a word's size. -/
import Derived.Test.YtkcfkegkhopakaaGreatDoorPlAm
namespace Go.Proofs.YtkcfkegkhopakaaGreatDoor
open Go Go.Ev Go.Sh
set_option linter.unusedVariables false
set_option linter.unusedSimpArgs false
set_option maxRecDepth 100000

theorem AllN.mk {P : Nat → Prop} {n : Nat} (h1 : AllN P n) (h2 : P n) : AllN P (n + 1) := ⟨h1, h2⟩
theorem bindS_id {α : Type} (r : Option α) : bindS r (fun y => some y) = r := by cases r <;> rfl

theorem nam_lit (c : Nat) {l : List UInt8} (h : (((List.range 76).all fun k => (nam k == l) == Nat.beq k c) && (!(([] : List UInt8) == l) && Nat.ble c 75)) = true) (k : Nat) : (nam k == l) = Nat.beq k c := by
  simp only [Bool.and_eq_true, Bool.not_eq_true'] at h
  obtain ⟨h1, h2, h3⟩ := h
  by_cases hk : k ≤ 75
  · exact beq_iff_eq.1 (List.all_eq_true.1 h1 k (List.mem_range.2 (by omega)))
  · have e : nam k = [] := by unfold nam; rw [List.getD_eq_getElem?_getD, List.getElem?_eq_none (by show 76 ≤ k; omega)]; rfl
    have h3 := Nat.le_of_ble_eq_true h3
    rw [e, h2]
    cases e2 : Nat.beq k c with
    | false => rfl
    | true => have := Nat.eq_of_beq_eq_true e2; omega
theorem nc1 (k : Nat) : (nam k == [108, 117, 105]) = Nat.beq k 1 := nam_lit 1 (by kernel_rfl) k
theorem nc2 (k : Nat) : (nam k == [97, 117, 105, 112, 99]) = Nat.beq k 2 := nam_lit 2 (by kernel_rfl) k
theorem nc3 (k : Nat) : (nam k == [106, 97, 108]) = Nat.beq k 3 := nam_lit 3 (by kernel_rfl) k
theorem nc4 (k : Nat) : (nam k == [106, 97, 108, 114]) = Nat.beq k 4 := nam_lit 4 (by kernel_rfl) k
theorem nc35 (k : Nat) : (nam k == [97, 100, 100]) = Nat.beq k 35 := nam_lit 35 (by kernel_rfl) k
theorem nc22 (k : Nat) : (nam k == [97, 100, 100, 105]) = Nat.beq k 22 := nam_lit 22 (by kernel_rfl) k
theorem nc36 (k : Nat) : (nam k == [115, 117, 98]) = Nat.beq k 36 := nam_lit 36 (by kernel_rfl) k
theorem nc38 (k : Nat) : (nam k == [115, 108, 116]) = Nat.beq k 38 := nam_lit 38 (by kernel_rfl) k
theorem nc23 (k : Nat) : (nam k == [115, 108, 116, 105]) = Nat.beq k 23 := nam_lit 23 (by kernel_rfl) k
theorem nc39 (k : Nat) : (nam k == [115, 108, 116, 117]) = Nat.beq k 39 := nam_lit 39 (by kernel_rfl) k
theorem nc24 (k : Nat) : (nam k == [115, 108, 116, 105, 117]) = Nat.beq k 24 := nam_lit 24 (by kernel_rfl) k
theorem nc40 (k : Nat) : (nam k == [120, 111, 114]) = Nat.beq k 40 := nam_lit 40 (by kernel_rfl) k
theorem nc25 (k : Nat) : (nam k == [120, 111, 114, 105]) = Nat.beq k 25 := nam_lit 25 (by kernel_rfl) k
theorem nc43 (k : Nat) : (nam k == [111, 114]) = Nat.beq k 43 := nam_lit 43 (by kernel_rfl) k
theorem nc26 (k : Nat) : (nam k == [111, 114, 105]) = Nat.beq k 26 := nam_lit 26 (by kernel_rfl) k
theorem nc44 (k : Nat) : (nam k == [97, 110, 100]) = Nat.beq k 44 := nam_lit 44 (by kernel_rfl) k
theorem nc27 (k : Nat) : (nam k == [97, 110, 100, 105]) = Nat.beq k 27 := nam_lit 27 (by kernel_rfl) k
theorem nc37 (k : Nat) : (nam k == [115, 108, 108]) = Nat.beq k 37 := nam_lit 37 (by kernel_rfl) k
theorem nc28 (k : Nat) : (nam k == [115, 108, 108, 105]) = Nat.beq k 28 := nam_lit 28 (by kernel_rfl) k
theorem nc41 (k : Nat) : (nam k == [115, 114, 108]) = Nat.beq k 41 := nam_lit 41 (by kernel_rfl) k
theorem nc29 (k : Nat) : (nam k == [115, 114, 108, 105]) = Nat.beq k 29 := nam_lit 29 (by kernel_rfl) k
theorem nc42 (k : Nat) : (nam k == [115, 114, 97]) = Nat.beq k 42 := nam_lit 42 (by kernel_rfl) k
theorem nc30 (k : Nat) : (nam k == [115, 114, 97, 105]) = Nat.beq k 30 := nam_lit 30 (by kernel_rfl) k
theorem nc45 (k : Nat) : (nam k == [97, 100, 100, 119]) = Nat.beq k 45 := nam_lit 45 (by kernel_rfl) k
theorem nc31 (k : Nat) : (nam k == [97, 100, 100, 105, 119]) = Nat.beq k 31 := nam_lit 31 (by kernel_rfl) k
theorem nc46 (k : Nat) : (nam k == [115, 117, 98, 119]) = Nat.beq k 46 := nam_lit 46 (by kernel_rfl) k
theorem nc47 (k : Nat) : (nam k == [115, 108, 108, 119]) = Nat.beq k 47 := nam_lit 47 (by kernel_rfl) k
theorem nc32 (k : Nat) : (nam k == [115, 108, 108, 105, 119]) = Nat.beq k 32 := nam_lit 32 (by kernel_rfl) k
theorem nc48 (k : Nat) : (nam k == [115, 114, 108, 119]) = Nat.beq k 48 := nam_lit 48 (by kernel_rfl) k
theorem nc33 (k : Nat) : (nam k == [115, 114, 108, 105, 119]) = Nat.beq k 33 := nam_lit 33 (by kernel_rfl) k
theorem nc49 (k : Nat) : (nam k == [115, 114, 97, 119]) = Nat.beq k 49 := nam_lit 49 (by kernel_rfl) k
theorem nc34 (k : Nat) : (nam k == [115, 114, 97, 105, 119]) = Nat.beq k 34 := nam_lit 34 (by kernel_rfl) k

abbrev Rest := Int × Int × Int × Int × Bool × Bool × Int × Int

theorem wrap_nat (z : Int) : ∃ n : Nat, n < 18446744073709551616 ∧ IntKind.u64.wrap z = n := ⟨(IntKind.u64.wrap z).toNat, by rw [u64_wrap_eq]; omega, by rw [u64_wrap_eq]; omega⟩

theorem proAll (M : Nat) (rest : Rest) (pc a b : Int) :
    AllN (fun k => F131 (M + 100) ((k : Int), rest) pc a b = proR (M + 100) (kin k) pc a (if srt (k : Int) = 6 then IntKind.u64.wrap rest.2.2.2.1 else b) (IntKind.u64.wrap rest.2.2.2.1)) 76 := by
  unfold F131 R131
  simp only [bindS_id]
  iterate 76 refine AllN.mk ?_ (by show _ = _; kernel_rfl)
  exact trivial


theorem kin_le {k : Nat} (h : k ≤ 75) : kin k ≤ 18 := by
  have : ((List.range 76).all fun k => Nat.ble (kin k) 18) = true := by decide
  exact Nat.le_of_ble_eq_true (List.all_eq_true.1 this k (List.mem_range.2 (by omega)))

def tkn (k : Nat) : Nat := bif Nat.ble 5 k && Nat.ble k 10 then k - 4 else 0
noncomputable def tkR (c : Nat) (a b : Int) (l : Bool) : Option Bool :=
  bif c.beq 1 then some (decide (a = b)) else bif c.beq 2 then some (!decide (a = b)) else bif c.beq 3 then some l else bif c.beq 4 then some (!l) else
  bif c.beq 5 then some (decide (a < b)) else bif c.beq 6 then some (!decide (a < b)) else some false
noncomputable def tkP (c : Nat) (a b : Int) : Option Bool :=
  bif c.beq 1 then some (decide (a = b)) else bif c.beq 2 then some (!decide (a = b)) else bif c.beq 3 then some (decide (IntKind.i64.wrap a < IntKind.i64.wrap b)) else bif c.beq 4 then some (decide (IntKind.i64.wrap b ≤ IntKind.i64.wrap a)) else
  bif c.beq 5 then some (decide (a < b)) else bif c.beq 6 then some (decide (b ≤ a)) else some false
theorem tpAll (M : Nat) (rest : Rest) (a b : Int) :
    AllN (fun k => F128 (M + 100) ((k : Int), rest) a b = tkP (tkn k) a b) 76 := by
  unfold F128
  iterate 76 refine AllN.mk ?_ (by show _ = _; kernel_rfl)
  exact trivial
theorem le_not (x y : Int) : decide (y ≤ x) = !decide (x < y) := by
  by_cases h : x < y
  · rw [decide_eq_true h, decide_eq_false (by omega)]; rfl
  · rw [decide_eq_false h, decide_eq_true (by omega)]; rfl
theorem nat_dec (k m : Nat) : decide ((k : Int) = (m : Int)) = Nat.beq k m := by
  by_cases h : k = m
  · rw [decide_eq_true (by omega), h, Nat.beq_refl]
  · rw [decide_eq_false (by omega)]
    cases e : Nat.beq k m with
    | true => exact absurd (Nat.eq_of_beq_eq_true e) h
    | false => rfl

theorem srt_nat {k : Nat} : srt (k : Int) = srt (k : Int) := rfl

def ldk (k : Nat) : Nat := bif Nat.ble 15 k && Nat.ble k 17 then 1 else bif Nat.ble 11 k && Nat.ble k 17 || Nat.ble 54 k && Nat.ble k 55 || Nat.ble 58 k && Nat.ble k 75 then 2 else 0
noncomputable def ldP (N c : Nat) (n x : Int) : Option Int := bif c.beq 0 then some 0 else bif c.beq 1 then F70 N x n else F127 N x n
theorem ldPAll (M : Nat) (x : Int) : AllN (fun k => F130 (M + 100) (k : Int) x = ldP (M + 100) (ldk k) ((8 * siz k : Nat) : Int) x) 76 := by
  unfold F130 R130
  simp only [bindS_id]
  iterate 76 refine AllN.mk ?_ (by show _ = _; kernel_rfl)
  exact trivial
theorem ld_siz : ((List.range 76).all fun k => Nat.beq (ldk k) 0 || Nat.ble 1 (siz k)) = true := by decide
theorem siz_le (k : Nat) : siz k ≤ 8 := by have := siz_cases k; omega
end Go.Proofs.YtkcfkegkhopakaaGreatDoor
