/- What instructions make of numbers: the program's and the document's are the same. No condition beyond a word's size. -/
import Derived.Test.YtkcfkegkhopakaaGreatDoorPlAl
import Derived.Test.YtkcfkegkhopakaaGreatDoorPlX2
namespace Go.Proofs.YtkcfkegkhopakaaGreatDoor
open Go Go.Ev Go.Sh
set_option linter.unusedVariables false
set_option linter.unusedSimpArgs false
set_option maxRecDepth 100000

/-! ### sizes and names -/
def sizT : List Nat := [0, 0, 0, 0, 0, 0, 0, 0, 0, 0, 0, 1, 2, 4, 8, 1, 2, 4, 1, 2, 4, 8, 0, 0, 0, 0, 0, 0, 0, 0, 0, 0, 0, 0, 0, 0, 0, 0, 0, 0, 0, 0, 0, 0, 0, 0, 0, 0, 0, 0, 0, 0, 0, 0,
  4, 8, 4, 8, 4, 4, 4, 4, 4, 4, 4, 4, 4, 8, 8, 8, 8, 8, 8, 8, 8, 8]
def siz (k : Nat) : Nat := sizT.getD k 0
def namT : List (List UInt8) := [[], [108, 117, 105], [97, 117, 105, 112, 99], [106, 97, 108], [106, 97, 108, 114], [98, 101, 113], [98, 110, 101], [98, 108, 116], [98, 103, 101], [98, 108, 116, 117], [98, 103, 101, 117], [108, 98], [108, 104], [108, 119], [108, 100], [108, 98, 117], [108, 104, 117], [108, 119, 117], [115, 98], [115, 104], [115, 119], [115, 100], [97, 100, 100, 105], [115, 108, 116, 105], [115, 108, 116, 105, 117], [120, 111, 114, 105], [111, 114, 105], [97, 110, 100, 105], [115, 108, 108, 105], [115, 114, 108, 105], [115, 114, 97, 105], [97, 100, 100, 105, 119], [115, 108, 108, 105, 119], [115, 114, 108, 105, 119], [115, 114, 97, 105, 119], [97, 100, 100], [115, 117, 98], [115, 108, 108], [115, 108, 116], [115, 108, 116, 117], [120, 111, 114], [115, 114, 108], [115, 114, 97], [111, 114], [97, 110, 100], [97, 100, 100, 119], [115, 117, 98, 119], [115, 108, 108, 119], [115, 114, 108, 119], [115, 114, 97, 119], [102, 101, 110, 99, 101], [102, 101, 110, 99, 101, 46, 116, 115, 111], [101, 99, 97, 108, 108], [101, 98, 114, 101, 97, 107], [108, 114, 46, 119], [108, 114, 46, 100], [115, 99, 46, 119], [115, 99, 46, 100], [97, 109, 111, 115, 119, 97, 112, 46, 119], [97, 109, 111, 97, 100, 100, 46, 119], [97, 109, 111, 120, 111, 114, 46, 119], [97, 109, 111, 97, 110, 100, 46, 119], [97, 109, 111, 111, 114, 46, 119], [97, 109, 111, 109, 105, 110, 46, 119], [97, 109, 111, 109, 97, 120, 46, 119], [97, 109, 111, 109, 105, 110, 117, 46, 119], [97, 109, 111, 109, 97, 120, 117, 46, 119], [97, 109, 111, 115, 119, 97, 112, 46, 100], [97, 109, 111, 97, 100, 100, 46, 100], [97, 109, 111, 120, 111, 114, 46, 100], [97, 109, 111, 97, 110, 100, 46, 100], [97, 109, 111, 111, 114, 46, 100], [97, 109, 111, 109, 105, 110, 46, 100], [97, 109, 111, 109, 97, 120, 46, 100], [97, 109, 111, 109, 105, 110, 117, 46, 100], [97, 109, 111, 109, 97, 120, 117, 46, 100]]
def nam (k : Nat) : List UInt8 := namT.getD k []

noncomputable def chkS (N k : Nat) : Bool := (F71 N k == some (siz k : Int)) && ((F34 N k == some (siz k : Int)) && ((F47 N k == some (nam k)) && ((F72 N k == some (srt k)) && ((F40 N k == some (srt k))))))
theorem chkS_all (M : Nat) : ((List.range 76).all fun k => chkS (M + 100) k) = true := by kernel_rfl

structure SizOk (N k : Nat) : Prop where
  sizP : F71 N k = some (siz k : Int)
  sizR : F34 N k = some (siz k : Int)
  namR : F47 N k = some (nam k)
  srtP : F72 N k = some (srt k)
  srtR : F40 N k = some (srt k)

theorem siz_ok {N : Nat} (hN : 100 ≤ N) {k : Nat} (h2 : k ≤ 75) : SizOk N k := by
  obtain ⟨M, rfl⟩ : ∃ M, N = M + 100 := ⟨N - 100, by omega⟩
  have := List.all_eq_true.1 (chkS_all M) k (List.mem_range.2 (by omega))
  simp only [chkS, Bool.and_eq_true, beq_iff_eq] at this
  obtain ⟨a0, a1, a2, a3, a4⟩ := this
  exact ⟨a0, a1, a2, a3, a4⟩

theorem nam_is {N : Nat} (hN : 100 ≤ N) (k : Nat) : F47 N (k : Int) = some (nam k) := by
  by_cases h : k ≤ 75
  · exact (siz_ok hN h).namR
  · rw [rName_out N (by omega)]
    unfold nam
    rw [List.getD_eq_getElem?_getD, List.getElem?_eq_none (by show 76 ≤ k; omega)]; rfl

/-- of each operation -/
def AllN (P : Nat → Prop) : Nat → Prop
  | 0 => True
  | n + 1 => AllN P n ∧ P n
theorem AllN.get {P : Nat → Prop} : ∀ {n : Nat}, AllN P n → ∀ k, k < n → P k
  | 0, _, k, h => absurd h (Nat.not_lt_zero _)
  | n + 1, ⟨h1, h2⟩, k, h => by
    by_cases e : k = n
    · subst e; exact h2
    · exact h1.get k (by omega)

theorem siz_cases (k : Nat) : siz k = 0 ∨ siz k = 1 ∨ siz k = 2 ∨ siz k = 4 ∨ siz k = 8 := by
  by_cases h : k < 76
  · have : ((List.range 76).all fun k => siz k == 0 || siz k == 1 || siz k == 2 || siz k == 4 || siz k == 8) = true := by decide
    have := List.all_eq_true.1 this k (List.mem_range.2 h)
    simp only [Bool.or_eq_true, beq_iff_eq] at this
    omega
  · left; unfold siz; rw [List.getD_eq_getElem?_getD, List.getElem?_eq_none (by show 76 ≤ k; omega)]; rfl

/-! ### a result -/
def kinT : List Nat := [0, 1, 2, 3, 3, 0, 0, 0, 0, 0, 0, 0, 0, 0, 0, 0, 0, 0, 0, 0, 0, 0, 4, 6, 7, 8, 9, 10, 11, 12, 13, 14, 16, 17, 18, 4, 5, 11, 6, 7, 8, 12, 13, 9, 10, 14, 15, 16, 17, 18]
def kin (k : Nat) : Nat := kinT.getD k 0

section
attribute [local irreducible] jp br chk bindS fixN

/-- the document's, by kinds -/
noncomputable def refR (N c : Nat) (pc a b imm x : Int) : Option Int :=
  bif c.beq 0 then some 0 else bif c.beq 1 then some imm else bif c.beq 2 then some (IntKind.u64.wrap (pc + imm)) else bif c.beq 3 then some (IntKind.u64.wrap (pc + 4)) else
  bif c.beq 4 then some (IntKind.u64.wrap (a + b)) else
  bif c.beq 5 then some (IntKind.u64.wrap (IntKind.u64.wrap (a + bits .xor .u64 (if IntKind.u64.signed = true then -1 else IntKind.u64.max) b) + 1)) else
  bif c.beq 6 then bindS (F133 N a b) (fun y => bindS (F136 N y) (fun z => some z)) else
  bif c.beq 7 then bindS (F136 N (decide (a < b))) (fun z => some z) else
  bif c.beq 8 then some (IntKind.u64.wrap (bits .or .u64 a b - bits .and .u64 a b)) else
  bif c.beq 9 then some (IntKind.u64.wrap (IntKind.u64.wrap (a + b) - bits .and .u64 a b)) else
  bif c.beq 10 then some (bits .and .u64 a b) else
  bif c.beq 11 then bindS (F137 N a (IntKind.i64.wrap (b.tmod 64))) (fun z => some z) else
  bif c.beq 12 then bindS (F138 N a 64 (IntKind.i64.wrap (b.tmod 64)) 0) (fun z => some z) else
  bif c.beq 13 then bindS (F138 N a 64 (IntKind.i64.wrap (b.tmod 64)) (a.fdiv (2 ^ Min.min 63 IntKind.u64.bits))) (fun z => some z) else
  bif c.beq 14 then bindS (F132 N (IntKind.u64.wrap (a + b)) 32) (fun z => some z) else
  bif c.beq 15 then bindS (F132 N (IntKind.u64.wrap (IntKind.u64.wrap (a + bits .xor .u64 (if IntKind.u64.signed = true then -1 else IntKind.u64.max) b) + 1)) 32) (fun z => some z) else
  bif c.beq 16 then bindS (F137 N a (IntKind.i64.wrap (b.tmod 32))) (fun y => bindS (F132 N y 32) (fun z => some z)) else
  bif c.beq 17 then bindS (F138 N x 32 (IntKind.i64.wrap (b.tmod 32)) 0) (fun y => bindS (F132 N y 32) (fun z => some z)) else
  bindS (F138 N x 32 (IntKind.i64.wrap (b.tmod 32)) (x.fdiv (2 ^ Min.min 31 IntKind.u64.bits))) (fun y => bindS (F132 N y 32) (fun z => some z))

/-- the program's, by kinds -/
noncomputable def proR (N c : Nat) (pc a b imm : Int) : Option Int :=
  bif c.beq 0 then some 0 else bif c.beq 1 then some imm else bif c.beq 2 then some (IntKind.u64.wrap (pc + imm)) else bif c.beq 3 then some (IntKind.u64.wrap (pc + 4)) else
  bif c.beq 4 then some (IntKind.u64.wrap (a + b)) else
  bif c.beq 5 then some (IntKind.u64.wrap (a - b)) else
  bif c.beq 6 then bindS (F210 N (decide (IntKind.i64.wrap a < IntKind.i64.wrap b))) (fun z => some z) else
  bif c.beq 7 then bindS (F210 N (decide (a < b))) (fun z => some z) else
  bif c.beq 8 then some (bits .xor .u64 a b) else
  bif c.beq 9 then some (bits .or .u64 a b) else
  bif c.beq 10 then some (bits .and .u64 a b) else
  bif c.beq 11 then some (IntKind.u64.wrap (a * 2 ^ Min.min (bits .and .u64 b 63).toNat IntKind.u64.bits)) else
  bif c.beq 12 then some (a.fdiv (2 ^ Min.min (bits .and .u64 b 63).toNat IntKind.u64.bits)) else
  bif c.beq 13 then some (IntKind.u64.wrap ((IntKind.i64.wrap a).fdiv (2 ^ Min.min (bits .and .u64 b 63).toNat IntKind.i64.bits))) else
  bif c.beq 14 then bindS (F211 N (IntKind.u64.wrap (a + b))) (fun z => some z) else
  bif c.beq 15 then bindS (F211 N (IntKind.u64.wrap (a - b))) (fun z => some z) else
  bif c.beq 16 then bindS (F211 N (IntKind.u64.wrap (a * 2 ^ Min.min (bits .and .u64 b 31).toNat IntKind.u64.bits))) (fun z => some z) else
  bif c.beq 17 then bindS (F70 N a 32) (fun y => bindS (F211 N (y.fdiv (2 ^ Min.min (bits .and .u64 b 31).toNat IntKind.u64.bits))) (fun z => some z)) else
  bindS (F211 N a) (fun y => some (IntKind.u64.wrap ((IntKind.i64.wrap y).fdiv (2 ^ Min.min (bits .and .u64 b 31).toNat IntKind.i64.bits))))
end

theorem shift_amt {y : Nat} (hy : y < 18446744073709551616) : Min.min (bits .and .u64 (y : Int) 63).toNat IntKind.u64.bits = y % 64 ∧ Min.min (bits .and .u64 (y : Int) 63).toNat IntKind.i64.bits = y % 64 ∧ Min.min (bits .and .u64 (y : Int) 31).toNat IntKind.u64.bits = y % 32 ∧ Min.min (bits .and .u64 (y : Int) 31).toNat IntKind.i64.bits = y % 32 := by
  rw [show (63 : Int) = ((2 ^ 6 - 1 : Nat) : Int) from rfl, show (31 : Int) = ((2 ^ 5 - 1 : Nat) : Int) from rfl, and_mask64 hy (by decide), and_mask64 hy (by decide), Int.toNat_natCast, Int.toNat_natCast, bits_u64, bits_i64]
  omega
theorem shift_ref {y : Nat} : IntKind.i64.wrap ((y : Int).tmod 64) = ((y % 64 : Nat) : Int) ∧ IntKind.i64.wrap ((y : Int).tmod 32) = ((y % 32 : Nat) : Int) := by
  rw [show (64 : Int) = ((64 : Nat) : Int) from rfl, show (32 : Int) = ((32 : Nat) : Int) from rfl, tmodN, tmodN]
  exact ⟨i64N (by omega), i64N (by omega)⟩

theorem fil_none (x b : Nat) : fil x b 0 = x := by unfold fil; rw [Nat.zero_mul, Nat.mul_zero, Nat.add_zero]
theorem fld_top {x b s : Nat} (hx : x < 2 ^ b) : fld x s b = x / 2 ^ s := by
  rw [fld_def]; exact Nat.mod_eq_of_lt (Nat.lt_of_le_of_lt (Nat.div_le_self _ _) hx)
theorem fdivE (z : Int) (s : Nat) : z.fdiv (2 ^ s) = z / 2 ^ s := Int.fdiv_eq_ediv_of_nonneg _ (Int.pow_nonneg (by decide))
theorem i64_top {x : Nat} (hx : x < 18446744073709551616) : IntKind.i64.wrap (x : Int) = (x : Int) - ((x / 9223372036854775808 : Nat) : Int) * 2 ^ 64 := by
  rw [i64_wrap_eq, show (2 : Int) ^ 64 = 18446744073709551616 from rfl]
  split <;> omega

theorem sra64 {x s : Nat} (hx : x < 18446744073709551616) (hs : s < 64) : ((fld (fil x 64 (x / 9223372036854775808)) s 64 : Nat) : Int) = IntKind.u64.wrap ((IntKind.i64.wrap (x : Int)).fdiv (2 ^ s)) := by
  rw [fld_fil hs, u64_wrap_eq, i64_top hx, fdivE]
  rfl

theorem sra32 {x s : Nat} (hx : x < 18446744073709551616) (hs : s < 32) : ((sx (fld (fil (x % 2 ^ 32) 32 (x % 2 ^ 32 / 2147483648)) s 32) 32 : Nat) : Int) = IntKind.u64.wrap ((IntKind.i64.wrap ((sx x 32 : Nat) : Int)).fdiv (2 ^ s)) := by
  have hf := fld_fil (x := x % 2 ^ 32) (b := 32) (f := x % 2 ^ 32 / 2147483648) hs
  have e1 : IntKind.i64.wrap ((sx x 32 : Nat) : Int) = ((x % 2 ^ 32 : Nat) : Int) - ((x % 2 ^ 32 / 2147483648 : Nat) : Int) * 2 ^ 32 := by
    rw [i64_wrap_eq]
    unfold sx
    rw [show (2 : Nat) ^ (32 - 1) = 2147483648 from rfl, show (2 : Nat) ^ 32 = 4294967296 from rfl, show (2 : Int) ^ 32 = 4294967296 from rfl]
    split <;> split <;> omega
  have hl := fld_lt (fil (x % 2 ^ 32) 32 (x % 2 ^ 32 / 2147483648)) s 32
  rw [e1, fdivE, u64_wrap_eq]
  generalize fld (fil (x % 2 ^ 32) 32 (x % 2 ^ 32 / 2147483648)) s 32 = r at hf hl ⊢
  have hz : -2147483648 ≤ ((x % 2 ^ 32 : Nat) : Int) - ((x % 2 ^ 32 / 2147483648 : Nat) : Int) * 2 ^ 32 ∧ ((x % 2 ^ 32 : Nat) : Int) - ((x % 2 ^ 32 / 2147483648 : Nat) : Int) * 2 ^ 32 < 2147483648 := by
    rw [show (2 : Nat) ^ 32 = 4294967296 from rfl, show (2 : Int) ^ 32 = 4294967296 from rfl]; omega
  generalize ((x % 2 ^ 32 : Nat) : Int) - ((x % 2 ^ 32 / 2147483648 : Nat) : Int) * 2 ^ 32 = z at hf hz ⊢
  have hp : (0 : Int) < 2 ^ s := Int.pow_pos (by decide)
  have hq1 : -2147483648 ≤ z / 2 ^ s := by
    rw [Int.le_ediv_iff_mul_le hp]
    have : (2147483648 : Int) * 1 ≤ 2147483648 * 2 ^ s := Int.mul_le_mul_of_nonneg_left (by omega) (by decide)
    omega
  have hq2 : z / 2 ^ s < 2147483648 := by
    rw [Int.ediv_lt_iff_lt_mul hp]
    have : (2147483648 : Int) * 1 ≤ 2147483648 * 2 ^ s := Int.mul_le_mul_of_nonneg_left (by omega) (by decide)
    omega
  generalize z / 2 ^ s = q at *
  rw [show (2 : Int) ^ 32 = 4294967296 from rfl] at hf
  rw [show (2 : Nat) ^ 32 = 4294967296 from rfl] at hl
  unfold sx
  rw [show (2 : Nat) ^ (32 - 1) = 2147483648 from rfl, show (2 : Nat) ^ 32 = 4294967296 from rfl]
  split <;> omega

theorem kinds_same {N : Nat} (hN : 100 ≤ N) {pc : Int} {a b : Nat} (ha : a < 18446744073709551616) (hb : b < 18446744073709551616) (imm : Int) {c : Nat} (hc : c ≤ 18) :
    refR N c pc a b imm ((a % 2 ^ 32 : Nat) : Int) = proR N c pc a b imm := by
  obtain ⟨s1, s2, s3, s4⟩ := shift_amt hb
  obtain ⟨t1, t2⟩ := shift_ref (y := b)
  have hw : ∀ z : Int, ∃ n : Nat, n < 18446744073709551616 ∧ IntKind.u64.wrap z = n := fun z => ⟨(IntKind.u64.wrap z).toNat, by rw [u64_wrap_eq]; omega, by rw [u64_wrap_eq]; omega⟩
  have hS : ∀ z : Int, bindS (F132 N (IntKind.u64.wrap z) 32) (fun z => some z) = bindS (F211 N (IntKind.u64.wrap z)) (fun z => some z) := by
    intro z
    obtain ⟨n, h1, h2⟩ := hw z
    rw [h2, aluNarrow_is N h1, show (32 : Int) = ((32 : Nat) : Int) from rfl, rSext_is hN h1 (by decide) (by decide)]
  have hlo : a % 2 ^ 32 < 18446744073709551616 := by omega
  have hlo2 := mod_lt2 a 32
  obtain rfl | rfl | rfl | rfl | rfl | rfl | rfl | rfl | rfl | rfl | rfl | rfl | rfl | rfl | rfl | rfl | rfl | rfl | rfl : c = 0 ∨ c = 1 ∨ c = 2 ∨ c = 3 ∨ c = 4 ∨ c = 5 ∨ c = 6 ∨ c = 7 ∨ c = 8 ∨ c = 9 ∨ c = 10 ∨ c = 11 ∨ c = 12 ∨ c = 13 ∨ c = 14 ∨ c = 15 ∨ c = 16 ∨ c = 17 ∨ c = 18 := by omega
  · rfl
  · rfl
  · rfl
  · rfl
  · rfl
  · show some _ = some _; rw [dsub ha hb]
  · show bindS (F133 N a b) _ = bindS (F210 N _) _
    rw [rLow_is N ha hb, bindS_some, aluOne_is, rBool_is]
  · show bindS (F136 N _) _ = bindS (F210 N _) _
    rw [aluOne_is, rBool_is]
  · show some _ = some _; rw [dxor ha hb]
  · show some _ = some _; rw [dor ha hb]
  · rfl
  · show bindS (F137 N _ _) _ = some _
    rw [t1, s1, Left_is hN ha (by omega), bindS_some, u64_wrap_eq, powI]
    congr 1
  · show bindS (F138 N _ _ _ _) _ = some _
    rw [t1, s1, show (64 : Int) = ((64 : Nat) : Int) from rfl, show (0 : Int) = ((0 : Nat) : Int) from rfl, Right_is hN (by decide) ha (by omega) (by decide), bindS_some, fil_none, fld_top ha, fdivN]
  · show bindS (F138 N _ _ _ _) _ = some _
    rw [t1, s2, show Min.min 63 IntKind.u64.bits = 63 from rfl, fdivN, show (64 : Int) = ((64 : Nat) : Int) from rfl, show (2 : Nat) ^ 63 = 9223372036854775808 from rfl, Right_is hN (by decide) ha (by omega) (by omega), bindS_some, sra64 ha (by omega)]
  · exact hS _
  · show bindS (F132 N _ 32) _ = bindS (F211 N _) _
    rw [dsub ha hb]; exact hS _
  · show bindS (F137 N _ _) _ = bindS (F211 N _) _
    rw [t2, s3, Left_is hN ha (by omega), bindS_some, ← hS, u64_wrap_eq, powI]
    congr 1
  · refine Eq.trans (b := bindS (F138 N ((a % 2 ^ 32 : Nat) : Int) 32 (IntKind.i64.wrap ((b : Int).tmod 32)) 0) (fun y => bindS (F132 N y 32) (fun z => some z))) (by kernel_rfl) (Eq.trans ?_ (b := bindS (F70 N a 32) (fun y => bindS (F211 N (y.fdiv (2 ^ Min.min (bits .and .u64 b 31).toNat IntKind.u64.bits))) (fun z => some z))) (by kernel_rfl))
    have hd : a % 2 ^ 32 / 2 ^ (b % 32) < 18446744073709551616 := Nat.lt_of_le_of_lt (Nat.div_le_self _ _) hlo
    rw [t2, show (32 : Int) = ((32 : Nat) : Int) from rfl, show (0 : Int) = ((0 : Nat) : Int) from rfl, Right_is hN (by decide) hlo2 (by omega) (by decide), bindS_some, fil_none, fld_top hlo2, Zext_full N ha (by decide), bindS_some, s3, fdivN, aluNarrow_is N hd, rSext_is hN hd (by decide) (by decide)]
  · refine Eq.trans (b := bindS (F138 N ((a % 2 ^ 32 : Nat) : Int) 32 (IntKind.i64.wrap ((b : Int).tmod 32)) (((a % 2 ^ 32 : Nat) : Int).fdiv (2 ^ Min.min 31 IntKind.u64.bits))) (fun y => bindS (F132 N y 32) (fun z => some z))) (by kernel_rfl) (Eq.trans ?_ (b := bindS (F211 N a) (fun y => some (IntKind.u64.wrap ((IntKind.i64.wrap y).fdiv (2 ^ Min.min (bits .and .u64 b 31).toNat IntKind.i64.bits))))) (by kernel_rfl))
    have hd := fld_lt (fil (a % 2 ^ 32) 32 (a % 2 ^ 32 / 2147483648)) (b % 32) 32
    rw [t2, show Min.min 31 IntKind.u64.bits = 31 from rfl, fdivN, show (32 : Int) = ((32 : Nat) : Int) from rfl, show (2 : Nat) ^ 31 = 2147483648 from rfl, Right_is hN (by decide) hlo2 (by omega) (by omega), bindS_some, aluNarrow_is N ha, bindS_some, s4, rSext_is hN (by omega) (by decide) (by decide), bindS_some, sra32 ha (by omega)]

end Go.Proofs.YtkcfkegkhopakaaGreatDoor
