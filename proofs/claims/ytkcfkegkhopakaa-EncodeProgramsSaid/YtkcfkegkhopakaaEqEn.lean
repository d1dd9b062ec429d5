/- What the contracts' functions come to, as printed. No condition. -/
import Derived.Test.YtkcfkegkhopakaaConEn
import Derived.KernelRfl
namespace Go.Proofs.Ytkcfkegkhopakaa
open Go Go.Ev Go.Sh
set_option maxRecDepth 100000
set_option linter.unusedVariables false
def g44' (N : Nat) (x1 : Int) : Option (Int) := f44 N (x1)
theorem e44 (N : Nat) (x1 : Int) : g44' N x1 =
  jp (fun (y0 : Bool) => br y0
 (some 6)
 (jp (fun (y1 : Bool) => br y1
 (some 5)
 (some 0))
 (fun K2 => br (Decidable.decide (x1 = 32))
 (K2 Bool.true)
 (br (Decidable.decide (x1 = 33))
 (K2 Bool.true)
 (K2 (Decidable.decide (x1 = 34)))))))
 (fun K3 => br (Decidable.decide (x1 = 28))
 (K3 Bool.true)
 (br (Decidable.decide (x1 = 29))
 (K3 Bool.true)
 (K3 (Decidable.decide (x1 = 30))))) := by kernel_rfl
def F44 (N : Nat) (x1 : Int) : Option (Int) :=
  jp (fun (y0 : Bool) => br y0
 (some 6)
 (jp (fun (y1 : Bool) => br y1
 (some 5)
 (some 0))
 (fun K2 => br (Decidable.decide (x1 = 32))
 (K2 Bool.true)
 (br (Decidable.decide (x1 = 33))
 (K2 Bool.true)
 (K2 (Decidable.decide (x1 = 34)))))))
 (fun K3 => br (Decidable.decide (x1 = 28))
 (K3 Bool.true)
 (br (Decidable.decide (x1 = 29))
 (K3 Bool.true)
 (K3 (Decidable.decide (x1 = 30)))))
theorem F44_eq (N : Nat) (x1 : Int) : g44' N x1 = F44 N x1 := by
  refine (e44 N x1).trans ?_
  rfl
def g32' (N : Nat) (x1 : Int) : Option (Int) := f32 N (x1)
theorem e32 (N : Nat) (x1 : Int) : g32' N x1 =
  jp (fun (y0 : Bool) => br y0
 (some 0)
 (br (Decidable.decide (x1 ≤ 2))
 (some 1)
 (br (Decidable.decide (x1 ≤ 4))
 (some 2)
 (br (Decidable.decide (x1 ≤ 10))
 (some 3)
 (br (Decidable.decide (x1 ≤ 17))
 (some 4)
 (br (Decidable.decide (x1 ≤ 21))
 (some 5)
 (br (Decidable.decide (x1 ≤ 34))
 (some 6)
 (br (Decidable.decide (x1 ≤ 49))
 (some 7)
 (br (Decidable.decide (x1 ≤ 51))
 (some 8)
 (br (Decidable.decide (x1 ≤ 53))
 (some 9)
 (br (Decidable.decide (x1 ≤ 55))
 (some 10)
 (br (Decidable.decide (x1 ≤ 57))
 (some 11)
 (some 12)))))))))))))
 (fun K1 => br (Decidable.decide (x1 < 1))
 (K1 Bool.true)
 (K1 (Decidable.decide (75 < x1)))) := by kernel_rfl
def F32 (N : Nat) (x1 : Int) : Option (Int) :=
  jp (fun (y0 : Bool) => br y0
 (some 0)
 (br (Decidable.decide (x1 ≤ 2))
 (some 1)
 (br (Decidable.decide (x1 ≤ 4))
 (some 2)
 (br (Decidable.decide (x1 ≤ 10))
 (some 3)
 (br (Decidable.decide (x1 ≤ 17))
 (some 4)
 (br (Decidable.decide (x1 ≤ 21))
 (some 5)
 (br (Decidable.decide (x1 ≤ 34))
 (some 6)
 (br (Decidable.decide (x1 ≤ 49))
 (some 7)
 (br (Decidable.decide (x1 ≤ 51))
 (some 8)
 (br (Decidable.decide (x1 ≤ 53))
 (some 9)
 (br (Decidable.decide (x1 ≤ 55))
 (some 10)
 (br (Decidable.decide (x1 ≤ 57))
 (some 11)
 (some 12)))))))))))))
 (fun K1 => br (Decidable.decide (x1 < 1))
 (K1 Bool.true)
 (K1 (Decidable.decide (75 < x1))))
theorem F32_eq (N : Nat) (x1 : Int) : g32' N x1 = F32 N x1 := by
  refine (e32 N x1).trans ?_
  rfl
def g45' (N : Nat) (x1 : Int) : Option (Int) := f45 N (x1)
theorem e45 (N : Nat) (x1 : Int) : g45' N x1 =
  bindS (g32' N x1) (fun (y0 : Int) => jp (fun (y1 : PUnit) => some 0)
 (fun K2 => br (Decidable.decide (y0 = 1))
 (some 4)
 (br (Decidable.decide (y0 = 3))
 (some 3)
 (br (Decidable.decide (y0 = 5))
 (some 2)
 (br (Decidable.decide (y0 = 2))
 (br (Decidable.decide (x1 = 3))
 (some 5)
 (some 1))
 (br (Decidable.decide (y0 = 4))
 (some 1)
 (br (Decidable.decide (y0 = 6))
 (bindS (g44' N x1) (fun (y3 : Int) => br (Decidable.decide (y3 = 0))
 (some 1)
 (K2 ())))
 (K2 ())))))))) := by kernel_rfl
def F45 (N : Nat) (x1 : Int) : Option (Int) :=
  bindS (F32 N x1) (fun (y0 : Int) => jp (fun (y1 : PUnit) => some 0)
 (fun K2 => br (Decidable.decide (y0 = 1))
 (some 4)
 (br (Decidable.decide (y0 = 3))
 (some 3)
 (br (Decidable.decide (y0 = 5))
 (some 2)
 (br (Decidable.decide (y0 = 2))
 (br (Decidable.decide (x1 = 3))
 (some 5)
 (some 1))
 (br (Decidable.decide (y0 = 4))
 (some 1)
 (br (Decidable.decide (y0 = 6))
 (bindS (F44 N x1) (fun (y3 : Int) => br (Decidable.decide (y3 = 0))
 (some 1)
 (K2 ())))
 (K2 ()))))))))
theorem F45_eq (N : Nat) (x1 : Int) : g45' N x1 = F45 N x1 := by
  refine (e45 N x1).trans ?_
  simp only [F32_eq, F44_eq, F45]
def g69' (N : Nat)  : Option (Int × Int × Int × Int × Int × Int × Int × Int × Int × Int × Int × Int × List (Int × (Int × Int)) × List (Int × (Int × Int)) × List (Int × (Int × Int)) × List (Int × (Int × Int)) × List (Int × (Int × Int))) := f69 N ()
theorem e69 (N : Nat)  : g69' N  =
  some ((0, (0, (12, (0, (12, (0, (13, (1, (32, (12, (21, (1, ([(31, 20, 0)], ([(31, 25, 5), (11, 7, 0)], ([(31, 31, 12), (7, 7, 11), (30, 25, 5), (11, 8, 1)], ([(31, 12, 12)], [(31, 31, 20), (19, 12, 12), (20, 20, 11), (30, 21, 1)]))))))))))))))))) := by kernel_rfl
def F69 (N : Nat)  : Option (Int × Int × Int × Int × Int × Int × Int × Int × Int × Int × Int × Int × List (Int × (Int × Int)) × List (Int × (Int × Int)) × List (Int × (Int × Int)) × List (Int × (Int × Int)) × List (Int × (Int × Int))) :=
  some ((0, (0, (12, (0, (12, (0, (13, (1, (32, (12, (21, (1, ([(31, 20, 0)], ([(31, 25, 5), (11, 7, 0)], ([(31, 31, 12), (7, 7, 11), (30, 25, 5), (11, 8, 1)], ([(31, 12, 12)], [(31, 31, 20), (19, 12, 12), (20, 20, 11), (30, 21, 1)])))))))))))))))))
theorem F69_eq (N : Nat)  : g69' N  = F69 N  := by
  refine (e69 N ).trans ?_
  rfl
def g64' (N : Nat) (x1 : Int) : Option (Int × Int × Bool × List (Int × (Int × Int))) := f64 N (x1)
theorem e64 (N : Nat) (x1 : Int) : g64' N x1 =
  jp (fun (y0 : Bool) => br y0
 (some ((0, (0, (Bool.false, [])))))
 (jp (fun (y1 : Bool × Int × Int × List (Int × Int × Int)) => some ((y1.2.1, (y1.2.2.1, (y1.1, y1.2.2.2)))))
 (fun K2 => bindS (g69' N ) (fun (y3 : Int ×
  Int ×
    Int ×
      Int ×
        Int ×
          Int ×
            Int ×
              Int ×
                Int ×
                  Int ×
                    Int ×
                      Int ×
                        List (Int × Int × Int) ×
                          List (Int × Int × Int) ×
                            List (Int × Int × Int) × List (Int × Int × Int) × List (Int × Int × Int)) => chk (Decidable.decide (0 ≤ x1) && Decidable.decide (x1 < (↑6 : Int))) (br (x1.toNat.beq 0)
 (K2 ((Bool.true, (y3.1, (y3.2.1, [])))))
 (br (x1.toNat.beq (0 + 1))
 (K2 ((Bool.true, (y3.2.2.1, (y3.2.2.2.1, y3.2.2.2.2.2.2.2.2.2.2.2.2.1)))))
 (br (x1.toNat.beq (0 + 1 + 1))
 (K2 ((Bool.true, (y3.2.2.2.2.1, (y3.2.2.2.2.2.1, y3.2.2.2.2.2.2.2.2.2.2.2.2.2.1)))))
 (br (x1.toNat.beq (0 + 1 + 1 + 1))
 (K2 ((Bool.true, (y3.2.2.2.2.2.2.1, (y3.2.2.2.2.2.2.2.1, y3.2.2.2.2.2.2.2.2.2.2.2.2.2.2.1)))))
 (br (x1.toNat.beq (0 + 1 + 1 + 1 + 1))
 (K2 ((Bool.true, (y3.2.2.2.2.2.2.2.2.1, (y3.2.2.2.2.2.2.2.2.2.1, y3.2.2.2.2.2.2.2.2.2.2.2.2.2.2.2.1)))))
 (K2 ((Bool.true, (y3.2.2.2.2.2.2.2.2.2.2.1, (y3.2.2.2.2.2.2.2.2.2.2.2.1, y3.2.2.2.2.2.2.2.2.2.2.2.2.2.2.2.2))))))))))))))
 (fun K4 => br (Decidable.decide (x1 < 1))
 (K4 Bool.true)
 (K4 (Decidable.decide (5 < x1)))) := by kernel_rfl
def F64 (N : Nat) (x1 : Int) : Option (Int × Int × Bool × List (Int × (Int × Int))) :=
  jp (fun (y0 : Bool) => br y0
 (some ((0, (0, (Bool.false, [])))))
 (jp (fun (y1 : Bool × Int × Int × List (Int × Int × Int)) => some ((y1.2.1, (y1.2.2.1, (y1.1, y1.2.2.2)))))
 (fun K2 => bindS (F69 N ) (fun (y3 : Int ×
  Int ×
    Int ×
      Int ×
        Int ×
          Int ×
            Int ×
              Int ×
                Int ×
                  Int ×
                    Int ×
                      Int ×
                        List (Int × Int × Int) ×
                          List (Int × Int × Int) ×
                            List (Int × Int × Int) × List (Int × Int × Int) × List (Int × Int × Int)) => chk (Decidable.decide (0 ≤ x1) && Decidable.decide (x1 < (↑6 : Int))) (br (x1.toNat.beq 0)
 (K2 ((Bool.true, (y3.1, (y3.2.1, [])))))
 (br (x1.toNat.beq (0 + 1))
 (K2 ((Bool.true, (y3.2.2.1, (y3.2.2.2.1, y3.2.2.2.2.2.2.2.2.2.2.2.2.1)))))
 (br (x1.toNat.beq (0 + 1 + 1))
 (K2 ((Bool.true, (y3.2.2.2.2.1, (y3.2.2.2.2.2.1, y3.2.2.2.2.2.2.2.2.2.2.2.2.2.1)))))
 (br (x1.toNat.beq (0 + 1 + 1 + 1))
 (K2 ((Bool.true, (y3.2.2.2.2.2.2.1, (y3.2.2.2.2.2.2.2.1, y3.2.2.2.2.2.2.2.2.2.2.2.2.2.2.1)))))
 (br (x1.toNat.beq (0 + 1 + 1 + 1 + 1))
 (K2 ((Bool.true, (y3.2.2.2.2.2.2.2.2.1, (y3.2.2.2.2.2.2.2.2.2.1, y3.2.2.2.2.2.2.2.2.2.2.2.2.2.2.2.1)))))
 (K2 ((Bool.true, (y3.2.2.2.2.2.2.2.2.2.2.1, (y3.2.2.2.2.2.2.2.2.2.2.2.1, y3.2.2.2.2.2.2.2.2.2.2.2.2.2.2.2.2))))))))))))))
 (fun K4 => br (Decidable.decide (x1 < 1))
 (K4 Bool.true)
 (K4 (Decidable.decide (5 < x1))))
theorem F64_eq (N : Nat) (x1 : Int) : g64' N x1 = F64 N x1 := by
  refine (e64 N x1).trans ?_
  simp only [F69_eq, F64]
def g66' (N : Nat) (x1 : Int) (x2 : Int) : Option (Int) := f66 N (x1, x2)
theorem e66 (N : Nat) (x1 : Int) (x2 : Int) : g66' N x1 x2 =
  br (Decidable.decide (x2 < 1))
 (some 0)
 (br (Decidable.decide (64 ≤ x2))
 (some x1)
 (chk (Decidable.decide (0 ≤ x2)) (some (Go.bits Go.BinOp.and IntKind.u64 x1
  (IntKind.u64.wrap (IntKind.u64.wrap (1 * 2 ^ Min.min x2.toNat IntKind.u64.bits) - 1)))))) := by kernel_rfl
def F66 (N : Nat) (x1 : Int) (x2 : Int) : Option (Int) :=
  br (Decidable.decide (x2 < 1))
 (some 0)
 (br (Decidable.decide (64 ≤ x2))
 (some x1)
 (chk (Decidable.decide (0 ≤ x2)) (some (Go.bits Go.BinOp.and IntKind.u64 x1
  (IntKind.u64.wrap (IntKind.u64.wrap (1 * 2 ^ Min.min x2.toNat IntKind.u64.bits) - 1))))))
theorem F66_eq (N : Nat) (x1 : Int) (x2 : Int) : g66' N x1 x2 = F66 N x1 x2 := by
  refine (e66 N x1 x2).trans ?_
  rfl
def g65' (N : Nat) (x1 : Int) (x2 : Int) : Option (Int) := f65 N (x1, x2)
theorem e65 (N : Nat) (x1 : Int) (x2 : Int) : g65' N x1 x2 =
  jp (fun (y0 : Bool) => br y0
 (bindS (g66' N x1 x2) (fun (y1 : Int) => some y1))
 (chk (Decidable.decide (0 ≤ IntKind.i64.wrap (64 - x2))) (chk (Decidable.decide (0 ≤ IntKind.i64.wrap (64 - x2))) (some (IntKind.u64.wrap
  ((IntKind.i64.wrap
        (IntKind.u64.wrap (x1 * 2 ^ Min.min (IntKind.i64.wrap (64 - x2)).toNat IntKind.u64.bits))).fdiv
    (2 ^ Min.min (IntKind.i64.wrap (64 - x2)).toNat IntKind.i64.bits)))))))
 (fun K2 => br (Decidable.decide (x2 < 1))
 (K2 Bool.true)
 (K2 (Decidable.decide (64 ≤ x2)))) := by kernel_rfl
def F65 (N : Nat) (x1 : Int) (x2 : Int) : Option (Int) :=
  jp (fun (y0 : Bool) => br y0
 (bindS (F66 N x1 x2) (fun (y1 : Int) => some y1))
 (chk (Decidable.decide (0 ≤ IntKind.i64.wrap (64 - x2))) (chk (Decidable.decide (0 ≤ IntKind.i64.wrap (64 - x2))) (some (IntKind.u64.wrap
  ((IntKind.i64.wrap
        (IntKind.u64.wrap (x1 * 2 ^ Min.min (IntKind.i64.wrap (64 - x2)).toNat IntKind.u64.bits))).fdiv
    (2 ^ Min.min (IntKind.i64.wrap (64 - x2)).toNat IntKind.i64.bits)))))))
 (fun K2 => br (Decidable.decide (x2 < 1))
 (K2 Bool.true)
 (K2 (Decidable.decide (64 ≤ x2))))
theorem F65_eq (N : Nat) (x1 : Int) (x2 : Int) : g65' N x1 x2 = F65 N x1 x2 := by
  refine (e65 N x1 x2).trans ?_
  simp only [F66_eq, F65]
def g46' (N : Nat) (x1 : Int) (x2 : Int) : Option (Int × Bool) := f46 N (x1, x2)
theorem e46 (N : Nat) (x1 : Int) (x2 : Int) : g46' N x1 x2 =
  bindS (g64' N x1) (fun (y0 : Int × Int × Bool × List (Int × Int × Int)) => jp (fun (y1 : Bool) => br y1
 (some ((0, Bool.false)))
 (fixN N (fun again2 (y3 : Int × Int) => br (Decidable.decide (y3.2 < (↑y0.2.2.2.length : Int)))
 (chk (Decidable.decide (0 ≤ y3.2) && Decidable.decide (y3.2 < (↑y0.2.2.2.length : Int))) (chk (Decidable.decide (0 ≤ (y0.2.2.2.getD y3.2.toNat (0, 0, 0)).2.2)) (bindS (g66' N ((IntKind.u64.wrap x2).fdiv (2 ^ Min.min (Int.toNat (y0.2.2.2.getD y3.2.toNat (0, 0, 0)).2.2) IntKind.u64.bits)) (IntKind.i64.wrap
      (IntKind.i64.wrap ((y0.2.2.2.getD y3.2.toNat (0, 0, 0)).1 - (y0.2.2.2.getD y3.2.toNat (0, 0, 0)).2.1) + 1))) (fun (y4 : Int) => chk (Decidable.decide (0 ≤ (y0.2.2.2.getD y3.2.toNat (0, 0, 0)).2.1)) (again2 ((Go.bits Go.BinOp.or IntKind.u32 y3.1
  (IntKind.u32.wrap
    (IntKind.u32.wrap y4 * 2 ^ Min.min (Int.toNat (y0.2.2.2.getD y3.2.toNat (0, 0, 0)).2.1) IntKind.u32.bits)), IntKind.i64.wrap (y3.2 + 1))))))))
 (some ((y3.1, Bool.true))))
 ((0, 0))))
 (fun K5 => br (!y0.2.2.1)
 (K5 Bool.true)
 (bindS (g65' N (IntKind.u64.wrap x2) y0.1) (fun (y6 : Int) => br (!Decidable.decide (y6 = IntKind.u64.wrap x2))
 (K5 Bool.true)
 (bindS (g66' N (IntKind.u64.wrap x2) y0.2.1) (fun (y7 : Int) => K5 (!Decidable.decide (y7 = 0)))))))) := by kernel_rfl
def F46 (N : Nat) (x1 : Int) (x2 : Int) : Option (Int × Bool) :=
  bindS (F64 N x1) (fun (y0 : Int × Int × Bool × List (Int × Int × Int)) => jp (fun (y1 : Bool) => br y1
 (some ((0, Bool.false)))
 (fixN N (fun again2 (y3 : Int × Int) => br (Decidable.decide (y3.2 < (↑y0.2.2.2.length : Int)))
 (chk (Decidable.decide (0 ≤ y3.2) && Decidable.decide (y3.2 < (↑y0.2.2.2.length : Int))) (chk (Decidable.decide (0 ≤ (y0.2.2.2.getD y3.2.toNat (0, 0, 0)).2.2)) (bindS (F66 N ((IntKind.u64.wrap x2).fdiv (2 ^ Min.min (Int.toNat (y0.2.2.2.getD y3.2.toNat (0, 0, 0)).2.2) IntKind.u64.bits)) (IntKind.i64.wrap
      (IntKind.i64.wrap ((y0.2.2.2.getD y3.2.toNat (0, 0, 0)).1 - (y0.2.2.2.getD y3.2.toNat (0, 0, 0)).2.1) + 1))) (fun (y4 : Int) => chk (Decidable.decide (0 ≤ (y0.2.2.2.getD y3.2.toNat (0, 0, 0)).2.1)) (again2 ((Go.bits Go.BinOp.or IntKind.u32 y3.1
  (IntKind.u32.wrap
    (IntKind.u32.wrap y4 * 2 ^ Min.min (Int.toNat (y0.2.2.2.getD y3.2.toNat (0, 0, 0)).2.1) IntKind.u32.bits)), IntKind.i64.wrap (y3.2 + 1))))))))
 (some ((y3.1, Bool.true))))
 ((0, 0))))
 (fun K5 => br (!y0.2.2.1)
 (K5 Bool.true)
 (bindS (F65 N (IntKind.u64.wrap x2) y0.1) (fun (y6 : Int) => br (!Decidable.decide (y6 = IntKind.u64.wrap x2))
 (K5 Bool.true)
 (bindS (F66 N (IntKind.u64.wrap x2) y0.2.1) (fun (y7 : Int) => K5 (!Decidable.decide (y7 = 0))))))))
theorem F46_eq (N : Nat) (x1 : Int) (x2 : Int) : g46' N x1 x2 = F46 N x1 x2 := by
  refine (e46 N x1 x2).trans ?_
  simp only [F64_eq, F65_eq, F66_eq, F46]
def g19' (N : Nat) (x1 : (Int × (Int × (Int × (Int × (Int × (Bool × (Bool × (Int × Int))))))))) : Option (Int × Bool) := f19 N (x1)
theorem e19 (N : Nat) (x1 : (Int × (Int × (Int × (Int × (Int × (Bool × (Bool × (Int × Int))))))))) : g19' N x1 =
  bindS (g44' N x1.1) (fun (y0 : Int) => br (Decidable.decide (0 < y0))
 (jp (fun (y1 : Int × Bool) => some ((y1.1, y1.2)))
 (fun K2 => br (Decidable.decide (0 ≤ x1.2.2.2.2.1))
 (chk (Decidable.decide (0 ≤ y0)) (K2 ((IntKind.u32.wrap (IntKind.u32.wrap x1.2.2.2.2.1 * 2 ^ Min.min 20 IntKind.u32.bits), Decidable.decide (x1.2.2.2.2.1 < IntKind.i64.wrap (1 * 2 ^ Min.min y0.toNat IntKind.i64.bits))))))
 (K2 ((IntKind.u32.wrap (IntKind.u32.wrap x1.2.2.2.2.1 * 2 ^ Min.min 20 IntKind.u32.bits), Bool.false)))))
 (bindS (g45' N x1.1) (fun (y3 : Int) => br (Decidable.decide (0 < y3))
 (bindS (g46' N y3 x1.2.2.2.2.1) (fun (y4 : Int × Bool) => some ((y4.1, y4.2))))
 (some ((0, Decidable.decide (x1.2.2.2.2.1 = 0))))))) := by kernel_rfl
def F19 (N : Nat) (x1 : (Int × (Int × (Int × (Int × (Int × (Bool × (Bool × (Int × Int))))))))) : Option (Int × Bool) :=
  bindS (F44 N x1.1) (fun (y0 : Int) => br (Decidable.decide (0 < y0))
 (jp (fun (y1 : Int × Bool) => some ((y1.1, y1.2)))
 (fun K2 => br (Decidable.decide (0 ≤ x1.2.2.2.2.1))
 (chk (Decidable.decide (0 ≤ y0)) (K2 ((IntKind.u32.wrap (IntKind.u32.wrap x1.2.2.2.2.1 * 2 ^ Min.min 20 IntKind.u32.bits), Decidable.decide (x1.2.2.2.2.1 < IntKind.i64.wrap (1 * 2 ^ Min.min y0.toNat IntKind.i64.bits))))))
 (K2 ((IntKind.u32.wrap (IntKind.u32.wrap x1.2.2.2.2.1 * 2 ^ Min.min 20 IntKind.u32.bits), Bool.false)))))
 (bindS (F45 N x1.1) (fun (y3 : Int) => br (Decidable.decide (0 < y3))
 (bindS (F46 N y3 x1.2.2.2.2.1) (fun (y4 : Int × Bool) => some ((y4.1, y4.2))))
 (some ((0, Decidable.decide (x1.2.2.2.2.1 = 0)))))))
theorem F19_eq (N : Nat) (x1 : (Int × (Int × (Int × (Int × (Int × (Bool × (Bool × (Int × Int))))))))) : g19' N x1 = F19 N x1 := by
  refine (e19 N x1).trans ?_
  simp only [F44_eq, F45_eq, F46_eq, F19]
def g68' (N : Nat) (x1 : Int) : Option (Int) := f68 N (x1)
theorem e68 (N : Nat) (x1 : Int) : g68' N x1 =
  jp (fun (y0 : Bool) => br y0
 (some 0)
 (some x1))
 (fun K1 => br (Decidable.decide (x1 < 0))
 (K1 Bool.true)
 (K1 (Decidable.decide (31 < x1)))) := by kernel_rfl
def F68 (N : Nat) (x1 : Int) : Option (Int) :=
  jp (fun (y0 : Bool) => br y0
 (some 0)
 (some x1))
 (fun K1 => br (Decidable.decide (x1 < 0))
 (K1 Bool.true)
 (K1 (Decidable.decide (31 < x1))))
theorem F68_eq (N : Nat) (x1 : Int) : g68' N x1 = F68 N x1 := by
  refine (e68 N x1).trans ?_
  rfl
def g49' (N : Nat) (x1 : (Int × (Int × (Int × (Int × (Int × (Bool × (Bool × (Int × Int))))))))) : Option (Int) := f49 N (x1)
theorem e49 (N : Nat) (x1 : (Int × (Int × (Int × (Int × (Int × (Bool × (Bool × (Int × Int))))))))) : g49' N x1 =
  bindS (g32' N x1.1) (fun (y0 : Int) => jp (fun (y1 : Bool) => br y1
 (some 0)
 (bindS (g68' N x1.2.1) (fun (y2 : Int) => some y2)))
 (fun K3 => br (Decidable.decide (y0 = 0))
 (K3 Bool.true)
 (br (Decidable.decide (y0 = 3))
 (K3 Bool.true)
 (br (Decidable.decide (y0 = 5))
 (K3 Bool.true)
 (br (Decidable.decide (y0 = 8))
 (K3 Bool.true)
 (K3 (Decidable.decide (y0 = 9)))))))) := by kernel_rfl
def F49 (N : Nat) (x1 : (Int × (Int × (Int × (Int × (Int × (Bool × (Bool × (Int × Int))))))))) : Option (Int) :=
  bindS (F32 N x1.1) (fun (y0 : Int) => jp (fun (y1 : Bool) => br y1
 (some 0)
 (bindS (F68 N x1.2.1) (fun (y2 : Int) => some y2)))
 (fun K3 => br (Decidable.decide (y0 = 0))
 (K3 Bool.true)
 (br (Decidable.decide (y0 = 3))
 (K3 Bool.true)
 (br (Decidable.decide (y0 = 5))
 (K3 Bool.true)
 (br (Decidable.decide (y0 = 8))
 (K3 Bool.true)
 (K3 (Decidable.decide (y0 = 9))))))))
theorem F49_eq (N : Nat) (x1 : (Int × (Int × (Int × (Int × (Int × (Bool × (Bool × (Int × Int))))))))) : g49' N x1 = F49 N x1 := by
  refine (e49 N x1).trans ?_
  simp only [F32_eq, F68_eq, F49]
def g50' (N : Nat) (x1 : (Int × (Int × (Int × (Int × (Int × (Bool × (Bool × (Int × Int))))))))) : Option (List Int) := f50 N (x1)
theorem e50 (N : Nat) (x1 : (Int × (Int × (Int × (Int × (Int × (Bool × (Bool × (Int × Int))))))))) : g50' N x1 =
  bindS (g32' N x1.1) (fun (y0 : Int) => jp (fun (y1 : List Int) => fixN N (fun again2 (y3 : Int × List Int) => br (Decidable.decide (y3.1 < (↑y1.length : Int)))
 (jp (fun (y4 : List Int) => again2 ((IntKind.i64.wrap (y3.1 + 1), y4)))
 (fun K5 => chk (Decidable.decide (0 ≤ y3.1) && Decidable.decide (y3.1 < (↑y1.length : Int))) (br (!Decidable.decide (y1.getD y3.1.toNat 0 = 0))
 (chk (Decidable.decide ((y3.2.length + [y1.getD y3.1.toNat 0].length) * 8 ≤ lim)) (K5 (y3.2 ++ [y1.getD y3.1.toNat 0])))
 (K5 y3.2))))
 (some y3.2))
 ((0, [])))
 (fun K6 => jp (fun (y7 : Bool) => br y7
 (bindS (g68' N x1.2.2.1) (fun (y8 : Int) => bindS (g68' N x1.2.2.2.1) (fun (y9 : Int) => K6 ([y8, y9]))))
 (jp (fun (y10 : Bool) => br y10
 (bindS (g68' N x1.2.2.1) (fun (y11 : Int) => K6 [y11]))
 (br (Decidable.decide (y0 = 2))
 (br (Decidable.decide (x1.1 = 4))
 (bindS (g68' N x1.2.2.1) (fun (y12 : Int) => K6 [y12]))
 (K6 []))
 (K6 [])))
 (fun K13 => br (Decidable.decide (y0 = 4))
 (K13 Bool.true)
 (br (Decidable.decide (y0 = 6))
 (K13 Bool.true)
 (K13 (Decidable.decide (y0 = 10)))))))
 (fun K14 => br (Decidable.decide (y0 = 3))
 (K14 Bool.true)
 (br (Decidable.decide (y0 = 5))
 (K14 Bool.true)
 (br (Decidable.decide (y0 = 7))
 (K14 Bool.true)
 (br (Decidable.decide (y0 = 11))
 (K14 Bool.true)
 (K14 (Decidable.decide (y0 = 12))))))))) := by kernel_rfl
def F50 (N : Nat) (x1 : (Int × (Int × (Int × (Int × (Int × (Bool × (Bool × (Int × Int))))))))) : Option (List Int) :=
  bindS (F32 N x1.1) (fun (y0 : Int) => jp (fun (y1 : List Int) => fixN N (fun again2 (y3 : Int × List Int) => br (Decidable.decide (y3.1 < (↑y1.length : Int)))
 (jp (fun (y4 : List Int) => again2 ((IntKind.i64.wrap (y3.1 + 1), y4)))
 (fun K5 => chk (Decidable.decide (0 ≤ y3.1) && Decidable.decide (y3.1 < (↑y1.length : Int))) (br (!Decidable.decide (y1.getD y3.1.toNat 0 = 0))
 (chk (Decidable.decide ((y3.2.length + [y1.getD y3.1.toNat 0].length) * 8 ≤ lim)) (K5 (y3.2 ++ [y1.getD y3.1.toNat 0])))
 (K5 y3.2))))
 (some y3.2))
 ((0, [])))
 (fun K6 => jp (fun (y7 : Bool) => br y7
 (bindS (F68 N x1.2.2.1) (fun (y8 : Int) => bindS (F68 N x1.2.2.2.1) (fun (y9 : Int) => K6 ([y8, y9]))))
 (jp (fun (y10 : Bool) => br y10
 (bindS (F68 N x1.2.2.1) (fun (y11 : Int) => K6 [y11]))
 (br (Decidable.decide (y0 = 2))
 (br (Decidable.decide (x1.1 = 4))
 (bindS (F68 N x1.2.2.1) (fun (y12 : Int) => K6 [y12]))
 (K6 []))
 (K6 [])))
 (fun K13 => br (Decidable.decide (y0 = 4))
 (K13 Bool.true)
 (br (Decidable.decide (y0 = 6))
 (K13 Bool.true)
 (K13 (Decidable.decide (y0 = 10)))))))
 (fun K14 => br (Decidable.decide (y0 = 3))
 (K14 Bool.true)
 (br (Decidable.decide (y0 = 5))
 (K14 Bool.true)
 (br (Decidable.decide (y0 = 7))
 (K14 Bool.true)
 (br (Decidable.decide (y0 = 11))
 (K14 Bool.true)
 (K14 (Decidable.decide (y0 = 12)))))))))
theorem F50_eq (N : Nat) (x1 : (Int × (Int × (Int × (Int × (Int × (Bool × (Bool × (Int × Int))))))))) : g50' N x1 = F50 N x1 := by
  refine (e50 N x1).trans ?_
  simp only [F32_eq, F68_eq, F50]
def g33' (N : Nat) (x1 : (Int × (Int × (Int × (Int × (Int × (Bool × (Bool × (Int × Int))))))))) : Option ((Int × (Int × (Int × (Int × (Int × (Bool × (Bool × (Int × Int))))))))) := f33 N (x1)
theorem e33 (N : Nat) (x1 : (Int × (Int × (Int × (Int × (Int × (Bool × (Bool × (Int × Int))))))))) : g33' N x1 =
  jp (fun (y0 : Int × Int × Int × Int × Int × Bool × Bool × Int × Int) => bindS (g50' N ((x1.1, 1, 2, 3, 0, Bool.false, Bool.false, 0, 0))) (fun (y1 : List Int) => fixN N (fun again2 (y3 : Int × List Bool) => br (Decidable.decide (y3.1 < (↑y1.length : Int)))
 (chk (Decidable.decide (0 ≤ y3.1) && Decidable.decide (y3.1 < (↑y1.length : Int))) (chk (Decidable.decide (0 ≤ y1.getD y3.1.toNat 0) && Decidable.decide (y1.getD y3.1.toNat 0 < (↑4 : Int))) (again2 ((IntKind.i64.wrap (y3.1 + 1), setD Bool.false y3.2 (Int.toNat (y1.getD y3.1.toNat 0)) Bool.true)))))
 (jp (fun (y4 : Int × Int × Int × Int × Int × Bool × Bool × Int × Int) => jp (fun (y5 : Int × Int × Int × Int × Int × Bool × Bool × Int × Int) => some y5)
 (fun K6 => br (!y3.2.getD 3 Bool.false)
 (K6 ((y4.1, (y4.2.1, (y4.2.2.1, (0, y4.2.2.2.2))))))
 (K6 y4)))
 (fun K7 => br (!y3.2.getD 2 Bool.false)
 (K7 ((y0.1, (y0.2.1, (0, y0.2.2.2)))))
 (K7 y0))))
 ((0, [Bool.false, Bool.false, Bool.false, Bool.false]))))
 (fun K8 => bindS (g49' N ((x1.1, 1, 2, 3, 0, Bool.false, Bool.false, 0, 0))) (fun (y9 : Int) => br (Decidable.decide (y9 = 0))
 (K8 ((x1.1, (0, x1.2.2))))
 (K8 x1))) := by kernel_rfl
def F33 (N : Nat) (x1 : (Int × (Int × (Int × (Int × (Int × (Bool × (Bool × (Int × Int))))))))) : Option ((Int × (Int × (Int × (Int × (Int × (Bool × (Bool × (Int × Int))))))))) :=
  jp (fun (y0 : Int × Int × Int × Int × Int × Bool × Bool × Int × Int) => bindS (F50 N ((x1.1, 1, 2, 3, 0, Bool.false, Bool.false, 0, 0))) (fun (y1 : List Int) => fixN N (fun again2 (y3 : Int × List Bool) => br (Decidable.decide (y3.1 < (↑y1.length : Int)))
 (chk (Decidable.decide (0 ≤ y3.1) && Decidable.decide (y3.1 < (↑y1.length : Int))) (chk (Decidable.decide (0 ≤ y1.getD y3.1.toNat 0) && Decidable.decide (y1.getD y3.1.toNat 0 < (↑4 : Int))) (again2 ((IntKind.i64.wrap (y3.1 + 1), setD Bool.false y3.2 (Int.toNat (y1.getD y3.1.toNat 0)) Bool.true)))))
 (jp (fun (y4 : Int × Int × Int × Int × Int × Bool × Bool × Int × Int) => jp (fun (y5 : Int × Int × Int × Int × Int × Bool × Bool × Int × Int) => some y5)
 (fun K6 => br (!y3.2.getD 3 Bool.false)
 (K6 ((y4.1, (y4.2.1, (y4.2.2.1, (0, y4.2.2.2.2))))))
 (K6 y4)))
 (fun K7 => br (!y3.2.getD 2 Bool.false)
 (K7 ((y0.1, (y0.2.1, (0, y0.2.2.2)))))
 (K7 y0))))
 ((0, [Bool.false, Bool.false, Bool.false, Bool.false]))))
 (fun K8 => bindS (F49 N ((x1.1, 1, 2, 3, 0, Bool.false, Bool.false, 0, 0))) (fun (y9 : Int) => br (Decidable.decide (y9 = 0))
 (K8 ((x1.1, (0, x1.2.2))))
 (K8 x1)))
theorem F33_eq (N : Nat) (x1 : (Int × (Int × (Int × (Int × (Int × (Bool × (Bool × (Int × Int))))))))) : g33' N x1 = F33 N x1 := by
  refine (e33 N x1).trans ?_
  simp only [F49_eq, F50_eq, F33]
def g10' (N : Nat) (x1 : (Int × (Int × (Int × (Int × (Int × (Bool × (Bool × (Int × Int))))))))) : Option (Bool) := f10 N (x1)
theorem e10 (N : Nat) (x1 : (Int × (Int × (Int × (Int × (Int × (Bool × (Bool × (Int × Int))))))))) : g10' N x1 =
  bindS (g19' N x1) (fun (y0 : Int × Bool) => bindS (g32' N x1.1) (fun (y1 : Int) => jp (fun (y2 : Bool) => br y2
 (some Bool.false)
 (br (Decidable.decide (x1.1 = 50))
 (jp (fun (y3 : Bool) => some y3)
 (fun K4 => br (Decidable.decide (0 ≤ x1.2.2.2.2.2.2.2.1))
 (br (Decidable.decide (x1.2.2.2.2.2.2.2.1 ≤ 15))
 (br (Decidable.decide (0 ≤ x1.2.2.2.2.2.2.2.2))
 (K4 (Decidable.decide (x1.2.2.2.2.2.2.2.2 ≤ 15)))
 (K4 Bool.false))
 (K4 Bool.false))
 (K4 Bool.false)))
 (br (Decidable.decide (x1.1 = 51))
 (jp (fun (y5 : Bool) => some y5)
 (fun K6 => br (Decidable.decide (x1.2.2.2.2.2.2.2.1 = 3))
 (K6 (Decidable.decide (x1.2.2.2.2.2.2.2.2 = 3)))
 (K6 Bool.false)))
 (fixN N (fun again7 (y8 : Int) => br (Decidable.decide (y8 < 3))
 (chk (Decidable.decide (0 ≤ y8) && Decidable.decide (y8 < (↑3 : Int))) (jp (fun (y9 : Bool) => br y9
 (some Bool.false)
 (again7 (IntKind.i64.wrap (y8 + 1))))
 (fun K10 => br (Decidable.decide ([x1.2.1, x1.2.2.1, x1.2.2.2.1].getD y8.toNat 0 < 0))
 (K10 Bool.true)
 (K10 (Decidable.decide (31 < [x1.2.1, x1.2.2.1, x1.2.2.2.1].getD y8.toNat 0))))))
 (jp (fun (y11 : Bool) => some y11)
 (fun K12 => br (Decidable.decide (x1.2.2.2.2.2.2.2.1 = 0))
 (K12 (Decidable.decide (x1.2.2.2.2.2.2.2.2 = 0)))
 (K12 Bool.false))))
 0))))
 (fun K13 => br (Decidable.decide (y1 = 0))
 (K13 Bool.true)
 (br (!y0.2)
 (K13 Bool.true)
 (bindS (g33' N x1) (fun (y14 : Int × Int × Int × Int × Int × Bool × Bool × Int × Int) => br (!((Ty.int IntKind.i64).pair
        ((Ty.int IntKind.i64).pair
          ((Ty.int IntKind.i64).pair
            ((Ty.int IntKind.i64).pair
              ((Ty.int IntKind.i64).pair
                (Ty.bool.pair
                  (Ty.bool.pair ((Ty.int IntKind.i64).pair (Ty.int IntKind.i64))))))))).eq
    y14 x1)
 (K13 Bool.true)
 (br x1.2.2.2.2.2.1
 (K13 (Decidable.decide (y1 < 10)))
 (br x1.2.2.2.2.2.2.1
 (K13 (Decidable.decide (y1 < 10)))
 (K13 Bool.false))))))))) := by kernel_rfl
def F10 (N : Nat) (x1 : (Int × (Int × (Int × (Int × (Int × (Bool × (Bool × (Int × Int))))))))) : Option (Bool) :=
  bindS (F19 N x1) (fun (y0 : Int × Bool) => bindS (F32 N x1.1) (fun (y1 : Int) => jp (fun (y2 : Bool) => br y2
 (some Bool.false)
 (br (Decidable.decide (x1.1 = 50))
 (jp (fun (y3 : Bool) => some y3)
 (fun K4 => br (Decidable.decide (0 ≤ x1.2.2.2.2.2.2.2.1))
 (br (Decidable.decide (x1.2.2.2.2.2.2.2.1 ≤ 15))
 (br (Decidable.decide (0 ≤ x1.2.2.2.2.2.2.2.2))
 (K4 (Decidable.decide (x1.2.2.2.2.2.2.2.2 ≤ 15)))
 (K4 Bool.false))
 (K4 Bool.false))
 (K4 Bool.false)))
 (br (Decidable.decide (x1.1 = 51))
 (jp (fun (y5 : Bool) => some y5)
 (fun K6 => br (Decidable.decide (x1.2.2.2.2.2.2.2.1 = 3))
 (K6 (Decidable.decide (x1.2.2.2.2.2.2.2.2 = 3)))
 (K6 Bool.false)))
 (fixN N (fun again7 (y8 : Int) => br (Decidable.decide (y8 < 3))
 (chk (Decidable.decide (0 ≤ y8) && Decidable.decide (y8 < (↑3 : Int))) (jp (fun (y9 : Bool) => br y9
 (some Bool.false)
 (again7 (IntKind.i64.wrap (y8 + 1))))
 (fun K10 => br (Decidable.decide ([x1.2.1, x1.2.2.1, x1.2.2.2.1].getD y8.toNat 0 < 0))
 (K10 Bool.true)
 (K10 (Decidable.decide (31 < [x1.2.1, x1.2.2.1, x1.2.2.2.1].getD y8.toNat 0))))))
 (jp (fun (y11 : Bool) => some y11)
 (fun K12 => br (Decidable.decide (x1.2.2.2.2.2.2.2.1 = 0))
 (K12 (Decidable.decide (x1.2.2.2.2.2.2.2.2 = 0)))
 (K12 Bool.false))))
 0))))
 (fun K13 => br (Decidable.decide (y1 = 0))
 (K13 Bool.true)
 (br (!y0.2)
 (K13 Bool.true)
 (bindS (F33 N x1) (fun (y14 : Int × Int × Int × Int × Int × Bool × Bool × Int × Int) => br (!((Ty.int IntKind.i64).pair
        ((Ty.int IntKind.i64).pair
          ((Ty.int IntKind.i64).pair
            ((Ty.int IntKind.i64).pair
              ((Ty.int IntKind.i64).pair
                (Ty.bool.pair
                  (Ty.bool.pair ((Ty.int IntKind.i64).pair (Ty.int IntKind.i64))))))))).eq
    y14 x1)
 (K13 Bool.true)
 (br x1.2.2.2.2.2.1
 (K13 (Decidable.decide (y1 < 10)))
 (br x1.2.2.2.2.2.2.1
 (K13 (Decidable.decide (y1 < 10)))
 (K13 Bool.false)))))))))
theorem F10_eq (N : Nat) (x1 : (Int × (Int × (Int × (Int × (Int × (Bool × (Bool × (Int × Int))))))))) : g10' N x1 = F10 N x1 := by
  refine (e10 N x1).trans ?_
  simp only [F19_eq, F32_eq, F33_eq, F10]
def g21' (N : Nat) (x1 : Int) : Option (Int) := f21 N (x1)
theorem e21 (N : Nat) (x1 : Int) : g21' N x1 =
  bindS (g32' N x1) (fun (y0 : Int) => br (Decidable.decide (y0 = 1))
 (br (Decidable.decide (x1 = 1))
 (some 55)
 (some 23))
 (br (Decidable.decide (y0 = 2))
 (br (Decidable.decide (x1 = 3))
 (some 111)
 (some 103))
 (br (Decidable.decide (y0 = 3))
 (some 99)
 (br (Decidable.decide (y0 = 4))
 (some 3)
 (br (Decidable.decide (y0 = 5))
 (some 35)
 (br (Decidable.decide (y0 = 6))
 (br (Decidable.decide (31 ≤ x1))
 (some 27)
 (some 19))
 (br (Decidable.decide (y0 = 7))
 (br (Decidable.decide (45 ≤ x1))
 (some 59)
 (some 51))
 (br (Decidable.decide (y0 = 8))
 (some 15)
 (br (Decidable.decide (y0 = 9))
 (some 115)
 (br (Decidable.decide (y0 = 0))
 (some 0)
 (some 47))))))))))) := by kernel_rfl
def F21 (N : Nat) (x1 : Int) : Option (Int) :=
  bindS (F32 N x1) (fun (y0 : Int) => br (Decidable.decide (y0 = 1))
 (br (Decidable.decide (x1 = 1))
 (some 55)
 (some 23))
 (br (Decidable.decide (y0 = 2))
 (br (Decidable.decide (x1 = 3))
 (some 111)
 (some 103))
 (br (Decidable.decide (y0 = 3))
 (some 99)
 (br (Decidable.decide (y0 = 4))
 (some 3)
 (br (Decidable.decide (y0 = 5))
 (some 35)
 (br (Decidable.decide (y0 = 6))
 (br (Decidable.decide (31 ≤ x1))
 (some 27)
 (some 19))
 (br (Decidable.decide (y0 = 7))
 (br (Decidable.decide (45 ≤ x1))
 (some 59)
 (some 51))
 (br (Decidable.decide (y0 = 8))
 (some 15)
 (br (Decidable.decide (y0 = 9))
 (some 115)
 (br (Decidable.decide (y0 = 0))
 (some 0)
 (some 47)))))))))))
theorem F21_eq (N : Nat) (x1 : Int) : g21' N x1 = F21 N x1 := by
  refine (e21 N x1).trans ?_
  simp only [F32_eq, F21]
def g47' (N : Nat) (x1 : Int) : Option (Int) := f47 N (x1)
theorem e47 (N : Nat) (x1 : Int) : g47' N x1 =
  jp (fun (y0 : Bool) => br y0
 (some 1)
 (jp (fun (y1 : Bool) => br y1
 (some 2)
 (jp (fun (y2 : Bool) => br y2
 (some 4)
 (jp (fun (y3 : Bool) => br y3
 (some 8)
 (bindS (g32' N x1) (fun (y4 : Int) => br (!Decidable.decide (y4 = 12))
 (some 0)
 (br (Decidable.decide (x1 ≤ 66))
 (some 4)
 (some 8)))))
 (fun K5 => br (Decidable.decide (x1 = 14))
 (K5 Bool.true)
 (br (Decidable.decide (x1 = 21))
 (K5 Bool.true)
 (br (Decidable.decide (x1 = 55))
 (K5 Bool.true)
 (K5 (Decidable.decide (x1 = 57))))))))
 (fun K6 => br (Decidable.decide (x1 = 13))
 (K6 Bool.true)
 (br (Decidable.decide (x1 = 17))
 (K6 Bool.true)
 (br (Decidable.decide (x1 = 20))
 (K6 Bool.true)
 (br (Decidable.decide (x1 = 54))
 (K6 Bool.true)
 (K6 (Decidable.decide (x1 = 56)))))))))
 (fun K7 => br (Decidable.decide (x1 = 12))
 (K7 Bool.true)
 (br (Decidable.decide (x1 = 16))
 (K7 Bool.true)
 (K7 (Decidable.decide (x1 = 19)))))))
 (fun K8 => br (Decidable.decide (x1 = 11))
 (K8 Bool.true)
 (br (Decidable.decide (x1 = 15))
 (K8 Bool.true)
 (K8 (Decidable.decide (x1 = 18))))) := by kernel_rfl
def F47 (N : Nat) (x1 : Int) : Option (Int) :=
  jp (fun (y0 : Bool) => br y0
 (some 1)
 (jp (fun (y1 : Bool) => br y1
 (some 2)
 (jp (fun (y2 : Bool) => br y2
 (some 4)
 (jp (fun (y3 : Bool) => br y3
 (some 8)
 (bindS (F32 N x1) (fun (y4 : Int) => br (!Decidable.decide (y4 = 12))
 (some 0)
 (br (Decidable.decide (x1 ≤ 66))
 (some 4)
 (some 8)))))
 (fun K5 => br (Decidable.decide (x1 = 14))
 (K5 Bool.true)
 (br (Decidable.decide (x1 = 21))
 (K5 Bool.true)
 (br (Decidable.decide (x1 = 55))
 (K5 Bool.true)
 (K5 (Decidable.decide (x1 = 57))))))))
 (fun K6 => br (Decidable.decide (x1 = 13))
 (K6 Bool.true)
 (br (Decidable.decide (x1 = 17))
 (K6 Bool.true)
 (br (Decidable.decide (x1 = 20))
 (K6 Bool.true)
 (br (Decidable.decide (x1 = 54))
 (K6 Bool.true)
 (K6 (Decidable.decide (x1 = 56)))))))))
 (fun K7 => br (Decidable.decide (x1 = 12))
 (K7 Bool.true)
 (br (Decidable.decide (x1 = 16))
 (K7 Bool.true)
 (K7 (Decidable.decide (x1 = 19)))))))
 (fun K8 => br (Decidable.decide (x1 = 11))
 (K8 Bool.true)
 (br (Decidable.decide (x1 = 15))
 (K8 Bool.true)
 (K8 (Decidable.decide (x1 = 18)))))
theorem F47_eq (N : Nat) (x1 : Int) : g47' N x1 = F47 N x1 := by
  refine (e47 N x1).trans ?_
  simp only [F32_eq, F47]
def g22' (N : Nat) (x1 : Int) : Option (Int) := f22 N (x1)
theorem e22 (N : Nat) (x1 : Int) : g22' N x1 =
  bindS (g32' N x1) (fun (y0 : Int) => br (Decidable.decide (y0 = 3))
 (chk (Decidable.decide (0 ≤ IntKind.i64.wrap (x1 - 5)) && Decidable.decide (IntKind.i64.wrap (x1 - 5) < (↑6 : Int))) (some ([0, 1, 4, 5, 6, 7].getD (IntKind.i64.wrap (x1 - 5)).toNat 0)))
 (br (Decidable.decide (y0 = 4))
 (some (IntKind.u32.wrap (IntKind.i64.wrap (x1 - 11))))
 (br (Decidable.decide (y0 = 5))
 (some (IntKind.u32.wrap (IntKind.i64.wrap (x1 - 18))))
 (jp (fun (y1 : Bool) => br y1
 (bindS (g47' N x1) (fun (y2 : Int) => br (Decidable.decide (y2 = 4))
 (some 2)
 (some 3)))
 (jp (fun (y3 : Bool) => br y3
 (some 1)
 (jp (fun (y4 : Bool) => br y4
 (some 2)
 (jp (fun (y5 : Bool) => br y5
 (some 3)
 (jp (fun (y6 : Bool) => br y6
 (some 4)
 (jp (fun (y7 : Bool) => br y7
 (some 5)
 (jp (fun (y8 : Bool) => br y8
 (some 6)
 (jp (fun (y9 : Bool) => br y9
 (some 7)
 (some 0))
 (fun K10 => br (Decidable.decide (x1 = 44))
 (K10 Bool.true)
 (K10 (Decidable.decide (x1 = 27))))))
 (fun K11 => br (Decidable.decide (x1 = 43))
 (K11 Bool.true)
 (K11 (Decidable.decide (x1 = 26))))))
 (fun K12 => br (Decidable.decide (x1 = 41))
 (K12 Bool.true)
 (br (Decidable.decide (x1 = 29))
 (K12 Bool.true)
 (br (Decidable.decide (x1 = 48))
 (K12 Bool.true)
 (br (Decidable.decide (x1 = 33))
 (K12 Bool.true)
 (br (Decidable.decide (x1 = 42))
 (K12 Bool.true)
 (br (Decidable.decide (x1 = 30))
 (K12 Bool.true)
 (br (Decidable.decide (x1 = 49))
 (K12 Bool.true)
 (K12 (Decidable.decide (x1 = 34))))))))))))
 (fun K13 => br (Decidable.decide (x1 = 40))
 (K13 Bool.true)
 (K13 (Decidable.decide (x1 = 25))))))
 (fun K14 => br (Decidable.decide (x1 = 39))
 (K14 Bool.true)
 (K14 (Decidable.decide (x1 = 24))))))
 (fun K15 => br (Decidable.decide (x1 = 38))
 (K15 Bool.true)
 (K15 (Decidable.decide (x1 = 23))))))
 (fun K16 => br (Decidable.decide (x1 = 37))
 (K16 Bool.true)
 (br (Decidable.decide (x1 = 28))
 (K16 Bool.true)
 (br (Decidable.decide (x1 = 47))
 (K16 Bool.true)
 (K16 (Decidable.decide (x1 = 32))))))))
 (fun K17 => br (Decidable.decide (y0 = 10))
 (K17 Bool.true)
 (br (Decidable.decide (y0 = 11))
 (K17 Bool.true)
 (K17 (Decidable.decide (y0 = 12))))))))) := by kernel_rfl
def F22 (N : Nat) (x1 : Int) : Option (Int) :=
  bindS (F32 N x1) (fun (y0 : Int) => br (Decidable.decide (y0 = 3))
 (chk (Decidable.decide (0 ≤ IntKind.i64.wrap (x1 - 5)) && Decidable.decide (IntKind.i64.wrap (x1 - 5) < (↑6 : Int))) (some ([0, 1, 4, 5, 6, 7].getD (IntKind.i64.wrap (x1 - 5)).toNat 0)))
 (br (Decidable.decide (y0 = 4))
 (some (IntKind.u32.wrap (IntKind.i64.wrap (x1 - 11))))
 (br (Decidable.decide (y0 = 5))
 (some (IntKind.u32.wrap (IntKind.i64.wrap (x1 - 18))))
 (jp (fun (y1 : Bool) => br y1
 (bindS (F47 N x1) (fun (y2 : Int) => br (Decidable.decide (y2 = 4))
 (some 2)
 (some 3)))
 (jp (fun (y3 : Bool) => br y3
 (some 1)
 (jp (fun (y4 : Bool) => br y4
 (some 2)
 (jp (fun (y5 : Bool) => br y5
 (some 3)
 (jp (fun (y6 : Bool) => br y6
 (some 4)
 (jp (fun (y7 : Bool) => br y7
 (some 5)
 (jp (fun (y8 : Bool) => br y8
 (some 6)
 (jp (fun (y9 : Bool) => br y9
 (some 7)
 (some 0))
 (fun K10 => br (Decidable.decide (x1 = 44))
 (K10 Bool.true)
 (K10 (Decidable.decide (x1 = 27))))))
 (fun K11 => br (Decidable.decide (x1 = 43))
 (K11 Bool.true)
 (K11 (Decidable.decide (x1 = 26))))))
 (fun K12 => br (Decidable.decide (x1 = 41))
 (K12 Bool.true)
 (br (Decidable.decide (x1 = 29))
 (K12 Bool.true)
 (br (Decidable.decide (x1 = 48))
 (K12 Bool.true)
 (br (Decidable.decide (x1 = 33))
 (K12 Bool.true)
 (br (Decidable.decide (x1 = 42))
 (K12 Bool.true)
 (br (Decidable.decide (x1 = 30))
 (K12 Bool.true)
 (br (Decidable.decide (x1 = 49))
 (K12 Bool.true)
 (K12 (Decidable.decide (x1 = 34))))))))))))
 (fun K13 => br (Decidable.decide (x1 = 40))
 (K13 Bool.true)
 (K13 (Decidable.decide (x1 = 25))))))
 (fun K14 => br (Decidable.decide (x1 = 39))
 (K14 Bool.true)
 (K14 (Decidable.decide (x1 = 24))))))
 (fun K15 => br (Decidable.decide (x1 = 38))
 (K15 Bool.true)
 (K15 (Decidable.decide (x1 = 23))))))
 (fun K16 => br (Decidable.decide (x1 = 37))
 (K16 Bool.true)
 (br (Decidable.decide (x1 = 28))
 (K16 Bool.true)
 (br (Decidable.decide (x1 = 47))
 (K16 Bool.true)
 (K16 (Decidable.decide (x1 = 32))))))))
 (fun K17 => br (Decidable.decide (y0 = 10))
 (K17 Bool.true)
 (br (Decidable.decide (y0 = 11))
 (K17 Bool.true)
 (K17 (Decidable.decide (y0 = 12)))))))))
theorem F22_eq (N : Nat) (x1 : Int) : g22' N x1 = F22 N x1 := by
  refine (e22 N x1).trans ?_
  simp only [F32_eq, F47_eq, F22]
def g23' (N : Nat) (x1 : Int) : Option (Int) := f23 N (x1)
theorem e23 (N : Nat) (x1 : Int) : g23' N x1 =
  bindS (g32' N x1) (fun (y0 : Int) => br (Decidable.decide (y0 = 10))
 (some 268435456)
 (br (Decidable.decide (y0 = 11))
 (some 402653184)
 (br (Decidable.decide (y0 = 12))
 (chk (Decidable.decide (0 ≤ (IntKind.i64.wrap (x1 - 58)).tmod 9) &&
  Decidable.decide ((IntKind.i64.wrap (x1 - 58)).tmod 9 < (↑9 : Int))) (some (IntKind.u32.wrap
  ([1, 0, 4, 12, 8, 16, 20, 24, 28].getD ((IntKind.i64.wrap (x1 - 58)).tmod 9).toNat 0 *
    2 ^ Min.min 27 IntKind.u32.bits))))
 (jp (fun (y1 : Bool) => br y1
 (some 1073741824)
 (br (Decidable.decide (x1 = 51))
 (some 2147483648)
 (br (Decidable.decide (x1 = 53))
 (some 1048576)
 (some 0))))
 (fun K2 => br (Decidable.decide (x1 = 36))
 (K2 Bool.true)
 (br (Decidable.decide (x1 = 46))
 (K2 Bool.true)
 (br (Decidable.decide (x1 = 42))
 (K2 Bool.true)
 (br (Decidable.decide (x1 = 49))
 (K2 Bool.true)
 (br (Decidable.decide (x1 = 30))
 (K2 Bool.true)
 (K2 (Decidable.decide (x1 = 34)))))))))))) := by kernel_rfl
def F23 (N : Nat) (x1 : Int) : Option (Int) :=
  bindS (F32 N x1) (fun (y0 : Int) => br (Decidable.decide (y0 = 10))
 (some 268435456)
 (br (Decidable.decide (y0 = 11))
 (some 402653184)
 (br (Decidable.decide (y0 = 12))
 (chk (Decidable.decide (0 ≤ (IntKind.i64.wrap (x1 - 58)).tmod 9) &&
  Decidable.decide ((IntKind.i64.wrap (x1 - 58)).tmod 9 < (↑9 : Int))) (some (IntKind.u32.wrap
  ([1, 0, 4, 12, 8, 16, 20, 24, 28].getD ((IntKind.i64.wrap (x1 - 58)).tmod 9).toNat 0 *
    2 ^ Min.min 27 IntKind.u32.bits))))
 (jp (fun (y1 : Bool) => br y1
 (some 1073741824)
 (br (Decidable.decide (x1 = 51))
 (some 2147483648)
 (br (Decidable.decide (x1 = 53))
 (some 1048576)
 (some 0))))
 (fun K2 => br (Decidable.decide (x1 = 36))
 (K2 Bool.true)
 (br (Decidable.decide (x1 = 46))
 (K2 Bool.true)
 (br (Decidable.decide (x1 = 42))
 (K2 Bool.true)
 (br (Decidable.decide (x1 = 49))
 (K2 Bool.true)
 (br (Decidable.decide (x1 = 30))
 (K2 Bool.true)
 (K2 (Decidable.decide (x1 = 34))))))))))))
theorem F23_eq (N : Nat) (x1 : Int) : g23' N x1 = F23 N x1 := by
  refine (e23 N x1).trans ?_
  simp only [F32_eq, F23]
def g24' (N : Nat) (x1 : Bool) (x2 : Int) : Option (Int) := f24 N (x1, x2)
theorem e24 (N : Nat) (x1 : Bool) (x2 : Int) : g24' N x1 x2 =
  br x1
 (chk (Decidable.decide (0 ≤ x2)) (some (IntKind.u32.wrap (1 * 2 ^ Min.min x2.toNat IntKind.u32.bits))))
 (some 0) := by kernel_rfl
def F24 (N : Nat) (x1 : Bool) (x2 : Int) : Option (Int) :=
  br x1
 (chk (Decidable.decide (0 ≤ x2)) (some (IntKind.u32.wrap (1 * 2 ^ Min.min x2.toNat IntKind.u32.bits))))
 (some 0)
theorem F24_eq (N : Nat) (x1 : Bool) (x2 : Int) : g24' N x1 x2 = F24 N x1 x2 := by
  refine (e24 N x1 x2).trans ?_
  rfl
def g20' (N : Nat) (x1 : List Int) : Option (Int) := f20 N (x1)
theorem e20 (N : Nat) (x1 : List Int) : g20' N x1 =
  fixN N (fun again0 (y1 : Int × Int) => br (Decidable.decide (y1.2 < (↑x1.length : Int)))
 (chk (Decidable.decide (0 ≤ y1.2) && Decidable.decide (y1.2 < (↑x1.length : Int))) (again0 ((Go.bits Go.BinOp.or IntKind.u32 y1.1 (x1.getD y1.2.toNat 0), IntKind.i64.wrap (y1.2 + 1)))))
 (some y1.1))
 ((0, 0)) := by kernel_rfl
def F20 (N : Nat) (x1 : List Int) : Option (Int) :=
  fixN N (fun again0 (y1 : Int × Int) => br (Decidable.decide (y1.2 < (↑x1.length : Int)))
 (chk (Decidable.decide (0 ≤ y1.2) && Decidable.decide (y1.2 < (↑x1.length : Int))) (again0 ((Go.bits Go.BinOp.or IntKind.u32 y1.1 (x1.getD y1.2.toNat 0), IntKind.i64.wrap (y1.2 + 1)))))
 (some y1.1))
 ((0, 0))
theorem F20_eq (N : Nat) (x1 : List Int) : g20' N x1 = F20 N x1 := by
  refine (e20 N x1).trans ?_
  rfl
def g8' (N : Nat) (x1 : (Int × (Int × (Int × (Int × (Int × (Bool × (Bool × (Int × Int))))))))) : Option (Int × Int) := f8 N (x1)
theorem e8 (N : Nat) (x1 : (Int × (Int × (Int × (Int × (Int × (Bool × (Bool × (Int × Int))))))))) : g8' N x1 =
  bindS (g10' N x1) (fun (y0 : Bool) => br (!y0)
 (some ((0, 1)))
 (bindS (g19' N x1) (fun (y1 : Int × Bool) => bindS (g21' N x1.1) (fun (y2 : Int) => bindS (g22' N x1.1) (fun (y3 : Int) => bindS (g23' N x1.1) (fun (y4 : Int) => bindS (g24' N x1.2.2.2.2.2.1 26) (fun (y5 : Int) => bindS (g24' N x1.2.2.2.2.2.2.1 25) (fun (y6 : Int) => bindS (g20' N ([y2, IntKind.u32.wrap (IntKind.u32.wrap x1.2.1 * 2 ^ Min.min 7 IntKind.u32.bits),
    IntKind.u32.wrap (y3 * 2 ^ Min.min 12 IntKind.u32.bits),
    IntKind.u32.wrap (IntKind.u32.wrap x1.2.2.1 * 2 ^ Min.min 15 IntKind.u32.bits),
    IntKind.u32.wrap (IntKind.u32.wrap x1.2.2.2.1 * 2 ^ Min.min 20 IntKind.u32.bits), y4, y1.1, y5, y6,
    IntKind.u32.wrap (IntKind.u32.wrap x1.2.2.2.2.2.2.2.1 * 2 ^ Min.min 24 IntKind.u32.bits),
    IntKind.u32.wrap (IntKind.u32.wrap x1.2.2.2.2.2.2.2.2 * 2 ^ Min.min 20 IntKind.u32.bits)])) (fun (y7 : Int) => some ((y7, 0))))))))))) := by kernel_rfl
def F8 (N : Nat) (x1 : (Int × (Int × (Int × (Int × (Int × (Bool × (Bool × (Int × Int))))))))) : Option (Int × Int) :=
  bindS (F10 N x1) (fun (y0 : Bool) => br (!y0)
 (some ((0, 1)))
 (bindS (F19 N x1) (fun (y1 : Int × Bool) => bindS (F21 N x1.1) (fun (y2 : Int) => bindS (F22 N x1.1) (fun (y3 : Int) => bindS (F23 N x1.1) (fun (y4 : Int) => bindS (F24 N x1.2.2.2.2.2.1 26) (fun (y5 : Int) => bindS (F24 N x1.2.2.2.2.2.2.1 25) (fun (y6 : Int) => bindS (F20 N ([y2, IntKind.u32.wrap (IntKind.u32.wrap x1.2.1 * 2 ^ Min.min 7 IntKind.u32.bits),
    IntKind.u32.wrap (y3 * 2 ^ Min.min 12 IntKind.u32.bits),
    IntKind.u32.wrap (IntKind.u32.wrap x1.2.2.1 * 2 ^ Min.min 15 IntKind.u32.bits),
    IntKind.u32.wrap (IntKind.u32.wrap x1.2.2.2.1 * 2 ^ Min.min 20 IntKind.u32.bits), y4, y1.1, y5, y6,
    IntKind.u32.wrap (IntKind.u32.wrap x1.2.2.2.2.2.2.2.1 * 2 ^ Min.min 24 IntKind.u32.bits),
    IntKind.u32.wrap (IntKind.u32.wrap x1.2.2.2.2.2.2.2.2 * 2 ^ Min.min 20 IntKind.u32.bits)])) (fun (y7 : Int) => some ((y7, 0)))))))))))
theorem F8_eq (N : Nat) (x1 : (Int × (Int × (Int × (Int × (Int × (Bool × (Bool × (Int × Int))))))))) : g8' N x1 = F8 N x1 := by
  refine (e8 N x1).trans ?_
  simp only [F10_eq, F19_eq, F20_eq, F21_eq, F22_eq, F23_eq, F24_eq, F8]
def g42' (N : Nat) (x1 : List Int) : Option (Int) := f42 N (x1)
theorem e42 (N : Nat) (x1 : List Int) : g42' N x1 =
  fixN N (fun again0 (y1 : Int × Int) => br (Decidable.decide (0 ≤ y1.2))
 (chk (Decidable.decide (0 ≤ y1.2) && Decidable.decide (y1.2 < (↑x1.length : Int))) (again0 ((Go.bits Go.BinOp.or IntKind.u64 (IntKind.u64.wrap (y1.1 * 2 ^ Min.min 8 IntKind.u64.bits))
  (IntKind.u64.wrap (x1.getD y1.2.toNat 0)), IntKind.i64.wrap (y1.2 - 1)))))
 (some y1.1))
 ((0, IntKind.i64.wrap ((if 8 < (↑x1.length : Int) then 8 else (↑x1.length : Int)) - 1))) := by kernel_rfl
def F42 (N : Nat) (x1 : List Int) : Option (Int) :=
  fixN N (fun again0 (y1 : Int × Int) => br (Decidable.decide (0 ≤ y1.2))
 (chk (Decidable.decide (0 ≤ y1.2) && Decidable.decide (y1.2 < (↑x1.length : Int))) (again0 ((Go.bits Go.BinOp.or IntKind.u64 (IntKind.u64.wrap (y1.1 * 2 ^ Min.min 8 IntKind.u64.bits))
  (IntKind.u64.wrap (x1.getD y1.2.toNat 0)), IntKind.i64.wrap (y1.2 - 1)))))
 (some y1.1))
 ((0, IntKind.i64.wrap ((if 8 < (↑x1.length : Int) then 8 else (↑x1.length : Int)) - 1)))
theorem F42_eq (N : Nat) (x1 : List Int) : g42' N x1 = F42 N x1 := by
  refine (e42 N x1).trans ?_
  rfl
def g61' (N : Nat) (x1 : Int) (x2 : Int) (x3 : Int) : Option (Int) := f61 N (x1, x2, x3)
theorem e61 (N : Nat) (x1 : Int) (x2 : Int) (x3 : Int) : g61' N x1 x2 x3 =
  jp (fun (y0 : Bool) => br y0
 (some 0)
 (chk (Decidable.decide (0 ≤ x3)) (bindS (g66' N ((IntKind.u64.wrap x1).fdiv (2 ^ Min.min x3.toNat IntKind.u64.bits)) (IntKind.i64.wrap (IntKind.i64.wrap (x2 - x3) + 1))) (fun (y1 : Int) => some (IntKind.u32.wrap y1)))))
 (fun K2 => br (Decidable.decide (31 < x2))
 (K2 Bool.true)
 (br (Decidable.decide (x2 < x3))
 (K2 Bool.true)
 (K2 (Decidable.decide (x3 < 0))))) := by kernel_rfl
def F61 (N : Nat) (x1 : Int) (x2 : Int) (x3 : Int) : Option (Int) :=
  jp (fun (y0 : Bool) => br y0
 (some 0)
 (chk (Decidable.decide (0 ≤ x3)) (bindS (F66 N ((IntKind.u64.wrap x1).fdiv (2 ^ Min.min x3.toNat IntKind.u64.bits)) (IntKind.i64.wrap (IntKind.i64.wrap (x2 - x3) + 1))) (fun (y1 : Int) => some (IntKind.u32.wrap y1)))))
 (fun K2 => br (Decidable.decide (31 < x2))
 (K2 Bool.true)
 (br (Decidable.decide (x2 < x3))
 (K2 Bool.true)
 (K2 (Decidable.decide (x3 < 0)))))
theorem F61_eq (N : Nat) (x1 : Int) (x2 : Int) (x3 : Int) : g61' N x1 x2 x3 = F61 N x1 x2 x3 := by
  refine (e61 N x1 x2 x3).trans ?_
  simp only [F66_eq, F61]
def g60' (N : Nat) (x1 : Int) (x2 : Int) (x3 : Int) : Option (Int) := f60 N (x1, x2, x3)
theorem e60 (N : Nat) (x1 : Int) (x2 : Int) (x3 : Int) : g60' N x1 x2 x3 =
  bindS (g61' N x3 x1 x2) (fun (y0 : Int) => some y0) := by kernel_rfl
def F60 (N : Nat) (x1 : Int) (x2 : Int) (x3 : Int) : Option (Int) :=
  bindS (F61 N x3 x1 x2) (fun (y0 : Int) => some y0)
theorem F60_eq (N : Nat) (x1 : Int) (x2 : Int) (x3 : Int) : g60' N x1 x2 x3 = F60 N x1 x2 x3 := by
  refine (e60 N x1 x2 x3).trans ?_
  simp only [F61_eq, F60]
def g40' (N : Nat) (x1 : Int) : Option ((Int × (Int × (Int × (Int × (Int × Int)))))) := f40 N (x1)
theorem e40 (N : Nat) (x1 : Int) : g40' N x1 =
  bindS (g60' N 11 7 x1) (fun (y0 : Int) => bindS (g60' N 19 15 x1) (fun (y1 : Int) => bindS (g60' N 24 20 x1) (fun (y2 : Int) => bindS (g60' N 14 12 x1) (fun (y3 : Int) => bindS (g60' N 31 25 x1) (fun (y4 : Int) => some ((x1, (IntKind.i64.wrap y0, (IntKind.i64.wrap y1, (IntKind.i64.wrap y2, (y3, y4))))))))))) := by kernel_rfl
def F40 (N : Nat) (x1 : Int) : Option ((Int × (Int × (Int × (Int × (Int × Int)))))) :=
  bindS (F60 N 11 7 x1) (fun (y0 : Int) => bindS (F60 N 19 15 x1) (fun (y1 : Int) => bindS (F60 N 24 20 x1) (fun (y2 : Int) => bindS (F60 N 14 12 x1) (fun (y3 : Int) => bindS (F60 N 31 25 x1) (fun (y4 : Int) => some ((x1, (IntKind.i64.wrap y0, (IntKind.i64.wrap y1, (IntKind.i64.wrap y2, (y3, y4)))))))))))
theorem F40_eq (N : Nat) (x1 : Int) : g40' N x1 = F40 N x1 := by
  refine (e40 N x1).trans ?_
  simp only [F60_eq, F40]
def g52' (N : Nat) (x1 : Int) (x2 : Int) : Option (Int) := f52 N (x1, x2)
theorem e52 (N : Nat) (x1 : Int) (x2 : Int) : g52' N x1 x2 =
  bindS (g64' N x1) (fun (y0 : Int × Int × Bool × List (Int × Int × Int)) => br (!y0.2.2.1)
 (some 0)
 (fixN N (fun again1 (y2 : Int × Int) => br (Decidable.decide (y2.2 < (↑y0.2.2.2.length : Int)))
 (chk (Decidable.decide (0 ≤ y2.2) && Decidable.decide (y2.2 < (↑y0.2.2.2.length : Int))) (bindS (g61' N x2 ((y0.2.2.2.getD y2.2.toNat (0, 0, 0)).1) ((y0.2.2.2.getD y2.2.toNat (0, 0, 0)).2.1)) (fun (y3 : Int) => chk (Decidable.decide (0 ≤ (y0.2.2.2.getD y2.2.toNat (0, 0, 0)).2.2)) (again1 ((Go.bits Go.BinOp.or IntKind.u64 y2.1
  (IntKind.u64.wrap
    (IntKind.u64.wrap y3 * 2 ^ Min.min (Int.toNat (y0.2.2.2.getD y2.2.toNat (0, 0, 0)).2.2) IntKind.u64.bits)), IntKind.i64.wrap (y2.2 + 1)))))))
 (bindS (g65' N y2.1 y0.1) (fun (y4 : Int) => some (IntKind.i64.wrap y4))))
 ((0, 0)))) := by kernel_rfl
def F52 (N : Nat) (x1 : Int) (x2 : Int) : Option (Int) :=
  bindS (F64 N x1) (fun (y0 : Int × Int × Bool × List (Int × Int × Int)) => br (!y0.2.2.1)
 (some 0)
 (fixN N (fun again1 (y2 : Int × Int) => br (Decidable.decide (y2.2 < (↑y0.2.2.2.length : Int)))
 (chk (Decidable.decide (0 ≤ y2.2) && Decidable.decide (y2.2 < (↑y0.2.2.2.length : Int))) (bindS (F61 N x2 ((y0.2.2.2.getD y2.2.toNat (0, 0, 0)).1) ((y0.2.2.2.getD y2.2.toNat (0, 0, 0)).2.1)) (fun (y3 : Int) => chk (Decidable.decide (0 ≤ (y0.2.2.2.getD y2.2.toNat (0, 0, 0)).2.2)) (again1 ((Go.bits Go.BinOp.or IntKind.u64 y2.1
  (IntKind.u64.wrap
    (IntKind.u64.wrap y3 * 2 ^ Min.min (Int.toNat (y0.2.2.2.getD y2.2.toNat (0, 0, 0)).2.2) IntKind.u64.bits)), IntKind.i64.wrap (y2.2 + 1)))))))
 (bindS (F65 N y2.1 y0.1) (fun (y4 : Int) => some (IntKind.i64.wrap y4))))
 ((0, 0))))
theorem F52_eq (N : Nat) (x1 : Int) (x2 : Int) : g52' N x1 x2 = F52 N x1 x2 := by
  refine (e52 N x1 x2).trans ?_
  simp only [F61_eq, F64_eq, F65_eq, F52]
def g53' (N : Nat) (x1 : (Int × (Int × (Int × (Int × (Int × Int)))))) : Option (Int × Int) := f53 N (x1)
theorem e53 (N : Nat) (x1 : (Int × (Int × (Int × (Int × (Int × Int)))))) : g53' N x1 =
  bindS (g61' N x1.1 25 20) (fun (y0 : Int) => bindS (g61' N x1.1 31 26) (fun (y1 : Int) => jp (fun (y2 : Bool) => br y2
 (some ((28, IntKind.i64.wrap y0)))
 (jp (fun (y3 : Bool) => br y3
 (some ((29, IntKind.i64.wrap y0)))
 (jp (fun (y4 : Bool) => br y4
 (some ((30, IntKind.i64.wrap y0)))
 (chk (Decidable.decide (0 ≤ x1.2.2.2.2.1) && Decidable.decide (x1.2.2.2.2.1 < (↑8 : Int))) (bindS (g52' N 1 x1.1) (fun (y5 : Int) => some (([22, 0, 23, 24, 25, 0, 26, 27].getD x1.2.2.2.2.1.toNat 0, y5))))))
 (fun K6 => br (Decidable.decide (x1.2.2.2.2.1 = 5))
 (K6 (Decidable.decide (y1 = 16)))
 (K6 Bool.false))))
 (fun K7 => br (Decidable.decide (x1.2.2.2.2.1 = 5))
 (K7 (Decidable.decide (y1 = 0)))
 (K7 Bool.false))))
 (fun K8 => br (Decidable.decide (x1.2.2.2.2.1 = 1))
 (K8 (Decidable.decide (y1 = 0)))
 (K8 Bool.false)))) := by kernel_rfl
def F53 (N : Nat) (x1 : (Int × (Int × (Int × (Int × (Int × Int)))))) : Option (Int × Int) :=
  bindS (F61 N x1.1 25 20) (fun (y0 : Int) => bindS (F61 N x1.1 31 26) (fun (y1 : Int) => jp (fun (y2 : Bool) => br y2
 (some ((28, IntKind.i64.wrap y0)))
 (jp (fun (y3 : Bool) => br y3
 (some ((29, IntKind.i64.wrap y0)))
 (jp (fun (y4 : Bool) => br y4
 (some ((30, IntKind.i64.wrap y0)))
 (chk (Decidable.decide (0 ≤ x1.2.2.2.2.1) && Decidable.decide (x1.2.2.2.2.1 < (↑8 : Int))) (bindS (F52 N 1 x1.1) (fun (y5 : Int) => some (([22, 0, 23, 24, 25, 0, 26, 27].getD x1.2.2.2.2.1.toNat 0, y5))))))
 (fun K6 => br (Decidable.decide (x1.2.2.2.2.1 = 5))
 (K6 (Decidable.decide (y1 = 16)))
 (K6 Bool.false))))
 (fun K7 => br (Decidable.decide (x1.2.2.2.2.1 = 5))
 (K7 (Decidable.decide (y1 = 0)))
 (K7 Bool.false))))
 (fun K8 => br (Decidable.decide (x1.2.2.2.2.1 = 1))
 (K8 (Decidable.decide (y1 = 0)))
 (K8 Bool.false))))
theorem F53_eq (N : Nat) (x1 : (Int × (Int × (Int × (Int × (Int × Int)))))) : g53' N x1 = F53 N x1 := by
  refine (e53 N x1).trans ?_
  simp only [F52_eq, F61_eq, F53]
def g54' (N : Nat) (x1 : (Int × (Int × (Int × (Int × (Int × Int)))))) : Option (Int × Int) := f54 N (x1)
theorem e54 (N : Nat) (x1 : (Int × (Int × (Int × (Int × (Int × Int)))))) : g54' N x1 =
  br (Decidable.decide (x1.2.2.2.2.1 = 0))
 (bindS (g52' N 1 x1.1) (fun (y0 : Int) => some ((31, y0))))
 (jp (fun (y1 : Bool) => br y1
 (some ((32, x1.2.2.2.1)))
 (jp (fun (y2 : Bool) => br y2
 (some ((33, x1.2.2.2.1)))
 (jp (fun (y3 : Bool) => br y3
 (some ((34, x1.2.2.2.1)))
 (some ((0, 0))))
 (fun K4 => br (Decidable.decide (x1.2.2.2.2.1 = 5))
 (K4 (Decidable.decide (x1.2.2.2.2.2 = 32)))
 (K4 Bool.false))))
 (fun K5 => br (Decidable.decide (x1.2.2.2.2.1 = 5))
 (K5 (Decidable.decide (x1.2.2.2.2.2 = 0)))
 (K5 Bool.false))))
 (fun K6 => br (Decidable.decide (x1.2.2.2.2.1 = 1))
 (K6 (Decidable.decide (x1.2.2.2.2.2 = 0)))
 (K6 Bool.false))) := by kernel_rfl
def F54 (N : Nat) (x1 : (Int × (Int × (Int × (Int × (Int × Int)))))) : Option (Int × Int) :=
  br (Decidable.decide (x1.2.2.2.2.1 = 0))
 (bindS (F52 N 1 x1.1) (fun (y0 : Int) => some ((31, y0))))
 (jp (fun (y1 : Bool) => br y1
 (some ((32, x1.2.2.2.1)))
 (jp (fun (y2 : Bool) => br y2
 (some ((33, x1.2.2.2.1)))
 (jp (fun (y3 : Bool) => br y3
 (some ((34, x1.2.2.2.1)))
 (some ((0, 0))))
 (fun K4 => br (Decidable.decide (x1.2.2.2.2.1 = 5))
 (K4 (Decidable.decide (x1.2.2.2.2.2 = 32)))
 (K4 Bool.false))))
 (fun K5 => br (Decidable.decide (x1.2.2.2.2.1 = 5))
 (K5 (Decidable.decide (x1.2.2.2.2.2 = 0)))
 (K5 Bool.false))))
 (fun K6 => br (Decidable.decide (x1.2.2.2.2.1 = 1))
 (K6 (Decidable.decide (x1.2.2.2.2.2 = 0)))
 (K6 Bool.false)))
theorem F54_eq (N : Nat) (x1 : (Int × (Int × (Int × (Int × (Int × Int)))))) : g54' N x1 = F54 N x1 := by
  refine (e54 N x1).trans ?_
  simp only [F52_eq, F54]
def g55' (N : Nat)  : Option (List Int × List Int) := f55 N ()
theorem e55 (N : Nat)  : g55' N  =
  some (([35, 37, 38, 39, 40, 41, 43, 44], [36, 0, 0, 0, 0, 42, 0, 0])) := by kernel_rfl
def F55 (N : Nat)  : Option (List Int × List Int) :=
  some (([35, 37, 38, 39, 40, 41, 43, 44], [36, 0, 0, 0, 0, 42, 0, 0]))
theorem F55_eq (N : Nat)  : g55' N  = F55 N  := by
  refine (e55 N ).trans ?_
  rfl
def g56' (N : Nat) (x1 : (Int × (Int × (Int × (Int × (Int × Int)))))) (x2 : List Int) (x3 : List Int) : Option (Int) := f56 N (x1, x2, x3)
theorem e56 (N : Nat) (x1 : (Int × (Int × (Int × (Int × (Int × Int)))))) (x2 : List Int) (x3 : List Int) : g56' N x1 x2 x3 =
  br (Decidable.decide (x1.2.2.2.2.2 = 0))
 (chk (Decidable.decide (0 ≤ x1.2.2.2.2.1) && Decidable.decide (x1.2.2.2.2.1 < (↑8 : Int))) (some (x2.getD x1.2.2.2.2.1.toNat 0)))
 (br (Decidable.decide (x1.2.2.2.2.2 = 32))
 (chk (Decidable.decide (0 ≤ x1.2.2.2.2.1) && Decidable.decide (x1.2.2.2.2.1 < (↑8 : Int))) (some (x3.getD x1.2.2.2.2.1.toNat 0)))
 (some 0)) := by kernel_rfl
def F56 (N : Nat) (x1 : (Int × (Int × (Int × (Int × (Int × Int)))))) (x2 : List Int) (x3 : List Int) : Option (Int) :=
  br (Decidable.decide (x1.2.2.2.2.2 = 0))
 (chk (Decidable.decide (0 ≤ x1.2.2.2.2.1) && Decidable.decide (x1.2.2.2.2.1 < (↑8 : Int))) (some (x2.getD x1.2.2.2.2.1.toNat 0)))
 (br (Decidable.decide (x1.2.2.2.2.2 = 32))
 (chk (Decidable.decide (0 ≤ x1.2.2.2.2.1) && Decidable.decide (x1.2.2.2.2.1 < (↑8 : Int))) (some (x3.getD x1.2.2.2.2.1.toNat 0)))
 (some 0))
theorem F56_eq (N : Nat) (x1 : (Int × (Int × (Int × (Int × (Int × Int)))))) (x2 : List Int) (x3 : List Int) : g56' N x1 x2 x3 = F56 N x1 x2 x3 := by
  refine (e56 N x1 x2 x3).trans ?_
  rfl
def g57' (N : Nat)  : Option (List Int × List Int) := f57 N ()
theorem e57 (N : Nat)  : g57' N  =
  some (([45, 47, 0, 0, 0, 48, 0, 0], [46, 0, 0, 0, 0, 49, 0, 0])) := by kernel_rfl
def F57 (N : Nat)  : Option (List Int × List Int) :=
  some (([45, 47, 0, 0, 0, 48, 0, 0], [46, 0, 0, 0, 0, 49, 0, 0]))
theorem F57_eq (N : Nat)  : g57' N  = F57 N  := by
  refine (e57 N ).trans ?_
  rfl
def g58' (N : Nat) (x1 : Int) : Option ((Int × (Int × (Int × (Int × (Int × (Bool × (Bool × (Int × Int))))))))) := f58 N (x1)
theorem e58 (N : Nat) (x1 : Int) : g58' N x1 =
  bindS (g61' N x1 31 20) (fun (y0 : Int) => br (Decidable.decide (y0 = 2099))
 (some ((51, (0, (0, (0, (0, (Bool.false, (Bool.false, (3, 3))))))))))
 (bindS (g61' N x1 27 24) (fun (y1 : Int) => bindS (g61' N x1 23 20) (fun (y2 : Int) => some ((50, (0, (0, (0, (0, (Bool.false, (Bool.false, (IntKind.i64.wrap y1, IntKind.i64.wrap y2))))))))))))) := by kernel_rfl
def F58 (N : Nat) (x1 : Int) : Option ((Int × (Int × (Int × (Int × (Int × (Bool × (Bool × (Int × Int))))))))) :=
  bindS (F61 N x1 31 20) (fun (y0 : Int) => br (Decidable.decide (y0 = 2099))
 (some ((51, (0, (0, (0, (0, (Bool.false, (Bool.false, (3, 3))))))))))
 (bindS (F61 N x1 27 24) (fun (y1 : Int) => bindS (F61 N x1 23 20) (fun (y2 : Int) => some ((50, (0, (0, (0, (0, (Bool.false, (Bool.false, (IntKind.i64.wrap y1, IntKind.i64.wrap y2)))))))))))))
theorem F58_eq (N : Nat) (x1 : Int) : g58' N x1 = F58 N x1 := by
  refine (e58 N x1).trans ?_
  simp only [F61_eq, F58]
def g59' (N : Nat) (x1 : (Int × (Int × (Int × (Int × (Int × Int)))))) : Option (Int) := f59 N (x1)
theorem e59 (N : Nat) (x1 : (Int × (Int × (Int × (Int × (Int × Int)))))) : g59' N x1 =
  bindS (g61' N x1.1 31 27) (fun (y0 : Int) => jp (fun (y1 : Int) => jp (fun (y2 : Bool) => br y2
 (some y1)
 (br (!Decidable.decide (x1.2.2.2.2.1 = 3))
 (some 0)
 (br (Decidable.decide (y1 ≤ 56))
 (some (IntKind.i64.wrap (y1 + 1)))
 (some (IntKind.i64.wrap (IntKind.i64.wrap (y1 + 67) - 58))))))
 (fun K3 => br (Decidable.decide (y1 = 0))
 (K3 Bool.true)
 (K3 (Decidable.decide (x1.2.2.2.2.1 = 2)))))
 (fun K4 => br (Decidable.decide (y0 = 2))
 (br (Decidable.decide (x1.2.2.2.1 = 0))
 (K4 54)
 (K4 0))
 (br (Decidable.decide (y0 = 3))
 (K4 56)
 (br (Decidable.decide (y0 = 1))
 (K4 58)
 (br (Decidable.decide (y0 = 0))
 (K4 59)
 (br (Decidable.decide (y0 = 4))
 (K4 60)
 (br (Decidable.decide (y0 = 12))
 (K4 61)
 (br (Decidable.decide (y0 = 8))
 (K4 62)
 (br (Decidable.decide (y0 = 16))
 (K4 63)
 (br (Decidable.decide (y0 = 20))
 (K4 64)
 (br (Decidable.decide (y0 = 24))
 (K4 65)
 (br (Decidable.decide (y0 = 28))
 (K4 66)
 (K4 0))))))))))))) := by kernel_rfl
def F59 (N : Nat) (x1 : (Int × (Int × (Int × (Int × (Int × Int)))))) : Option (Int) :=
  bindS (F61 N x1.1 31 27) (fun (y0 : Int) => jp (fun (y1 : Int) => jp (fun (y2 : Bool) => br y2
 (some y1)
 (br (!Decidable.decide (x1.2.2.2.2.1 = 3))
 (some 0)
 (br (Decidable.decide (y1 ≤ 56))
 (some (IntKind.i64.wrap (y1 + 1)))
 (some (IntKind.i64.wrap (IntKind.i64.wrap (y1 + 67) - 58))))))
 (fun K3 => br (Decidable.decide (y1 = 0))
 (K3 Bool.true)
 (K3 (Decidable.decide (x1.2.2.2.2.1 = 2)))))
 (fun K4 => br (Decidable.decide (y0 = 2))
 (br (Decidable.decide (x1.2.2.2.1 = 0))
 (K4 54)
 (K4 0))
 (br (Decidable.decide (y0 = 3))
 (K4 56)
 (br (Decidable.decide (y0 = 1))
 (K4 58)
 (br (Decidable.decide (y0 = 0))
 (K4 59)
 (br (Decidable.decide (y0 = 4))
 (K4 60)
 (br (Decidable.decide (y0 = 12))
 (K4 61)
 (br (Decidable.decide (y0 = 8))
 (K4 62)
 (br (Decidable.decide (y0 = 16))
 (K4 63)
 (br (Decidable.decide (y0 = 20))
 (K4 64)
 (br (Decidable.decide (y0 = 24))
 (K4 65)
 (br (Decidable.decide (y0 = 28))
 (K4 66)
 (K4 0)))))))))))))
theorem F59_eq (N : Nat) (x1 : (Int × (Int × (Int × (Int × (Int × Int)))))) : g59' N x1 = F59 N x1 := by
  refine (e59 N x1).trans ?_
  simp only [F61_eq, F59]
def g39' (N : Nat) (x1 : (Int × (Int × (Int × (Int × (Int × Int)))))) : Option ((Int × (Int × (Int × (Int × (Int × (Bool × (Bool × (Int × Int))))))))) := f39 N (x1)
theorem e39 (N : Nat) (x1 : (Int × (Int × (Int × (Int × (Int × Int)))))) : g39' N x1 =
  jp (fun (y0 : Int × Int × Int × Int × Int × Bool × Bool × Int × Int) => some y0)
 (fun K1 => br (Decidable.decide (Go.bits Go.BinOp.and IntKind.u32 x1.1 127 = 55))
 (bindS (g52' N 4 x1.1) (fun (y2 : Int) => K1 ((1, (x1.2.1, (x1.2.2.1, (x1.2.2.2.1, (y2, (Bool.false, (Bool.false, (0, 0)))))))))))
 (br (Decidable.decide (Go.bits Go.BinOp.and IntKind.u32 x1.1 127 = 23))
 (bindS (g52' N 4 x1.1) (fun (y3 : Int) => K1 ((2, (x1.2.1, (x1.2.2.1, (x1.2.2.2.1, (y3, (Bool.false, (Bool.false, (0, 0)))))))))))
 (br (Decidable.decide (Go.bits Go.BinOp.and IntKind.u32 x1.1 127 = 111))
 (bindS (g52' N 5 x1.1) (fun (y4 : Int) => K1 ((3, (x1.2.1, (x1.2.2.1, (x1.2.2.2.1, (y4, (Bool.false, (Bool.false, (0, 0)))))))))))
 (br (Decidable.decide (Go.bits Go.BinOp.and IntKind.u32 x1.1 127 = 103))
 (br (Decidable.decide (x1.2.2.2.2.1 = 0))
 (bindS (g52' N 1 x1.1) (fun (y5 : Int) => K1 ((4, (x1.2.1, (x1.2.2.1, (x1.2.2.2.1, (y5, (Bool.false, (Bool.false, (0, 0)))))))))))
 (K1 ((0, (x1.2.1, (x1.2.2.1, (x1.2.2.2.1, (0, (Bool.false, (Bool.false, (0, 0)))))))))))
 (br (Decidable.decide (Go.bits Go.BinOp.and IntKind.u32 x1.1 127 = 99))
 (chk (Decidable.decide (0 ≤ x1.2.2.2.2.1) && Decidable.decide (x1.2.2.2.2.1 < (↑8 : Int))) (bindS (g52' N 3 x1.1) (fun (y6 : Int) => K1 (([5, 6, 0, 0, 7, 8, 9, 10].getD x1.2.2.2.2.1.toNat 0, (x1.2.1, (x1.2.2.1, (x1.2.2.2.1, (y6, (Bool.false, (Bool.false, (0, 0))))))))))))
 (br (Decidable.decide (Go.bits Go.BinOp.and IntKind.u32 x1.1 127 = 3))
 (br (Decidable.decide (x1.2.2.2.2.1 < 7))
 (bindS (g52' N 1 x1.1) (fun (y7 : Int) => K1 ((IntKind.i64.wrap (11 + IntKind.i64.wrap x1.2.2.2.2.1), (x1.2.1, (x1.2.2.1, (x1.2.2.2.1, (y7, (Bool.false, (Bool.false, (0, 0)))))))))))
 (K1 ((0, (x1.2.1, (x1.2.2.1, (x1.2.2.2.1, (0, (Bool.false, (Bool.false, (0, 0)))))))))))
 (br (Decidable.decide (Go.bits Go.BinOp.and IntKind.u32 x1.1 127 = 35))
 (br (Decidable.decide (x1.2.2.2.2.1 < 4))
 (bindS (g52' N 2 x1.1) (fun (y8 : Int) => K1 ((IntKind.i64.wrap (18 + IntKind.i64.wrap x1.2.2.2.2.1), (x1.2.1, (x1.2.2.1, (x1.2.2.2.1, (y8, (Bool.false, (Bool.false, (0, 0)))))))))))
 (K1 ((0, (x1.2.1, (x1.2.2.1, (x1.2.2.2.1, (0, (Bool.false, (Bool.false, (0, 0)))))))))))
 (br (Decidable.decide (Go.bits Go.BinOp.and IntKind.u32 x1.1 127 = 19))
 (bindS (g53' N x1) (fun (y9 : Int × Int) => K1 ((y9.1, (x1.2.1, (x1.2.2.1, (x1.2.2.2.1, (y9.2, (Bool.false, (Bool.false, (0, 0)))))))))))
 (br (Decidable.decide (Go.bits Go.BinOp.and IntKind.u32 x1.1 127 = 27))
 (bindS (g54' N x1) (fun (y10 : Int × Int) => K1 ((y10.1, (x1.2.1, (x1.2.2.1, (x1.2.2.2.1, (y10.2, (Bool.false, (Bool.false, (0, 0)))))))))))
 (br (Decidable.decide (Go.bits Go.BinOp.and IntKind.u32 x1.1 127 = 51))
 (bindS (g55' N ) (fun (y11 : List Int × List Int) => bindS (g56' N x1 y11.1 y11.2) (fun (y12 : Int) => K1 ((y12, (x1.2.1, (x1.2.2.1, (x1.2.2.2.1, (0, (Bool.false, (Bool.false, (0, 0))))))))))))
 (br (Decidable.decide (Go.bits Go.BinOp.and IntKind.u32 x1.1 127 = 59))
 (bindS (g57' N ) (fun (y13 : List Int × List Int) => bindS (g56' N x1 y13.1 y13.2) (fun (y14 : Int) => K1 ((y14, (x1.2.1, (x1.2.2.1, (x1.2.2.2.1, (0, (Bool.false, (Bool.false, (0, 0))))))))))))
 (br (Decidable.decide (Go.bits Go.BinOp.and IntKind.u32 x1.1 127 = 15))
 (br (Decidable.decide (x1.2.2.2.2.1 = 0))
 (bindS (g58' N x1.1) (fun (y15 : Int × Int × Int × Int × Int × Bool × Bool × Int × Int) => some y15))
 (K1 ((0, (x1.2.1, (x1.2.2.1, (x1.2.2.2.1, (0, (Bool.false, (Bool.false, (0, 0)))))))))))
 (br (Decidable.decide (Go.bits Go.BinOp.and IntKind.u32 x1.1 127 = 115))
 (jp (fun (y16 : Int × Int × Int × Int × Int × Bool × Bool × Int × Int) => K1 y16)
 (fun K17 => br (Decidable.decide (x1.1 = 115))
 (K17 ((52, (x1.2.1, (x1.2.2.1, (x1.2.2.2.1, (0, (Bool.false, (Bool.false, (0, 0))))))))))
 (br (Decidable.decide (x1.1 = 1048691))
 (K17 ((53, (x1.2.1, (x1.2.2.1, (x1.2.2.2.1, (0, (Bool.false, (Bool.false, (0, 0))))))))))
 (K17 ((0, (x1.2.1, (x1.2.2.1, (x1.2.2.2.1, (0, (Bool.false, (Bool.false, (0, 0)))))))))))))
 (br (Decidable.decide (Go.bits Go.BinOp.and IntKind.u32 x1.1 127 = 47))
 (bindS (g59' N x1) (fun (y18 : Int) => K1 ((y18, (x1.2.1, (x1.2.2.1, (x1.2.2.2.1, (0, (Decidable.decide (Go.bits Go.BinOp.and IntKind.u32 (x1.1.fdiv (2 ^ Min.min 26 IntKind.u32.bits)) 1 = 1), (Decidable.decide (Go.bits Go.BinOp.and IntKind.u32 (x1.1.fdiv (2 ^ Min.min 25 IntKind.u32.bits)) 1 = 1), (0, 0)))))))))))
 (K1 ((0, (x1.2.1, (x1.2.2.1, (x1.2.2.2.1, (0, (Bool.false, (Bool.false, (0, 0)))))))))))))))))))))))) := by kernel_rfl
def F39 (N : Nat) (x1 : (Int × (Int × (Int × (Int × (Int × Int)))))) : Option ((Int × (Int × (Int × (Int × (Int × (Bool × (Bool × (Int × Int))))))))) :=
  jp (fun (y0 : Int × Int × Int × Int × Int × Bool × Bool × Int × Int) => some y0)
 (fun K1 => br (Decidable.decide (Go.bits Go.BinOp.and IntKind.u32 x1.1 127 = 55))
 (bindS (F52 N 4 x1.1) (fun (y2 : Int) => K1 ((1, (x1.2.1, (x1.2.2.1, (x1.2.2.2.1, (y2, (Bool.false, (Bool.false, (0, 0)))))))))))
 (br (Decidable.decide (Go.bits Go.BinOp.and IntKind.u32 x1.1 127 = 23))
 (bindS (F52 N 4 x1.1) (fun (y3 : Int) => K1 ((2, (x1.2.1, (x1.2.2.1, (x1.2.2.2.1, (y3, (Bool.false, (Bool.false, (0, 0)))))))))))
 (br (Decidable.decide (Go.bits Go.BinOp.and IntKind.u32 x1.1 127 = 111))
 (bindS (F52 N 5 x1.1) (fun (y4 : Int) => K1 ((3, (x1.2.1, (x1.2.2.1, (x1.2.2.2.1, (y4, (Bool.false, (Bool.false, (0, 0)))))))))))
 (br (Decidable.decide (Go.bits Go.BinOp.and IntKind.u32 x1.1 127 = 103))
 (br (Decidable.decide (x1.2.2.2.2.1 = 0))
 (bindS (F52 N 1 x1.1) (fun (y5 : Int) => K1 ((4, (x1.2.1, (x1.2.2.1, (x1.2.2.2.1, (y5, (Bool.false, (Bool.false, (0, 0)))))))))))
 (K1 ((0, (x1.2.1, (x1.2.2.1, (x1.2.2.2.1, (0, (Bool.false, (Bool.false, (0, 0)))))))))))
 (br (Decidable.decide (Go.bits Go.BinOp.and IntKind.u32 x1.1 127 = 99))
 (chk (Decidable.decide (0 ≤ x1.2.2.2.2.1) && Decidable.decide (x1.2.2.2.2.1 < (↑8 : Int))) (bindS (F52 N 3 x1.1) (fun (y6 : Int) => K1 (([5, 6, 0, 0, 7, 8, 9, 10].getD x1.2.2.2.2.1.toNat 0, (x1.2.1, (x1.2.2.1, (x1.2.2.2.1, (y6, (Bool.false, (Bool.false, (0, 0))))))))))))
 (br (Decidable.decide (Go.bits Go.BinOp.and IntKind.u32 x1.1 127 = 3))
 (br (Decidable.decide (x1.2.2.2.2.1 < 7))
 (bindS (F52 N 1 x1.1) (fun (y7 : Int) => K1 ((IntKind.i64.wrap (11 + IntKind.i64.wrap x1.2.2.2.2.1), (x1.2.1, (x1.2.2.1, (x1.2.2.2.1, (y7, (Bool.false, (Bool.false, (0, 0)))))))))))
 (K1 ((0, (x1.2.1, (x1.2.2.1, (x1.2.2.2.1, (0, (Bool.false, (Bool.false, (0, 0)))))))))))
 (br (Decidable.decide (Go.bits Go.BinOp.and IntKind.u32 x1.1 127 = 35))
 (br (Decidable.decide (x1.2.2.2.2.1 < 4))
 (bindS (F52 N 2 x1.1) (fun (y8 : Int) => K1 ((IntKind.i64.wrap (18 + IntKind.i64.wrap x1.2.2.2.2.1), (x1.2.1, (x1.2.2.1, (x1.2.2.2.1, (y8, (Bool.false, (Bool.false, (0, 0)))))))))))
 (K1 ((0, (x1.2.1, (x1.2.2.1, (x1.2.2.2.1, (0, (Bool.false, (Bool.false, (0, 0)))))))))))
 (br (Decidable.decide (Go.bits Go.BinOp.and IntKind.u32 x1.1 127 = 19))
 (bindS (F53 N x1) (fun (y9 : Int × Int) => K1 ((y9.1, (x1.2.1, (x1.2.2.1, (x1.2.2.2.1, (y9.2, (Bool.false, (Bool.false, (0, 0)))))))))))
 (br (Decidable.decide (Go.bits Go.BinOp.and IntKind.u32 x1.1 127 = 27))
 (bindS (F54 N x1) (fun (y10 : Int × Int) => K1 ((y10.1, (x1.2.1, (x1.2.2.1, (x1.2.2.2.1, (y10.2, (Bool.false, (Bool.false, (0, 0)))))))))))
 (br (Decidable.decide (Go.bits Go.BinOp.and IntKind.u32 x1.1 127 = 51))
 (bindS (F55 N ) (fun (y11 : List Int × List Int) => bindS (F56 N x1 y11.1 y11.2) (fun (y12 : Int) => K1 ((y12, (x1.2.1, (x1.2.2.1, (x1.2.2.2.1, (0, (Bool.false, (Bool.false, (0, 0))))))))))))
 (br (Decidable.decide (Go.bits Go.BinOp.and IntKind.u32 x1.1 127 = 59))
 (bindS (F57 N ) (fun (y13 : List Int × List Int) => bindS (F56 N x1 y13.1 y13.2) (fun (y14 : Int) => K1 ((y14, (x1.2.1, (x1.2.2.1, (x1.2.2.2.1, (0, (Bool.false, (Bool.false, (0, 0))))))))))))
 (br (Decidable.decide (Go.bits Go.BinOp.and IntKind.u32 x1.1 127 = 15))
 (br (Decidable.decide (x1.2.2.2.2.1 = 0))
 (bindS (F58 N x1.1) (fun (y15 : Int × Int × Int × Int × Int × Bool × Bool × Int × Int) => some y15))
 (K1 ((0, (x1.2.1, (x1.2.2.1, (x1.2.2.2.1, (0, (Bool.false, (Bool.false, (0, 0)))))))))))
 (br (Decidable.decide (Go.bits Go.BinOp.and IntKind.u32 x1.1 127 = 115))
 (jp (fun (y16 : Int × Int × Int × Int × Int × Bool × Bool × Int × Int) => K1 y16)
 (fun K17 => br (Decidable.decide (x1.1 = 115))
 (K17 ((52, (x1.2.1, (x1.2.2.1, (x1.2.2.2.1, (0, (Bool.false, (Bool.false, (0, 0))))))))))
 (br (Decidable.decide (x1.1 = 1048691))
 (K17 ((53, (x1.2.1, (x1.2.2.1, (x1.2.2.2.1, (0, (Bool.false, (Bool.false, (0, 0))))))))))
 (K17 ((0, (x1.2.1, (x1.2.2.1, (x1.2.2.2.1, (0, (Bool.false, (Bool.false, (0, 0)))))))))))))
 (br (Decidable.decide (Go.bits Go.BinOp.and IntKind.u32 x1.1 127 = 47))
 (bindS (F59 N x1) (fun (y18 : Int) => K1 ((y18, (x1.2.1, (x1.2.2.1, (x1.2.2.2.1, (0, (Decidable.decide (Go.bits Go.BinOp.and IntKind.u32 (x1.1.fdiv (2 ^ Min.min 26 IntKind.u32.bits)) 1 = 1), (Decidable.decide (Go.bits Go.BinOp.and IntKind.u32 (x1.1.fdiv (2 ^ Min.min 25 IntKind.u32.bits)) 1 = 1), (0, 0)))))))))))
 (K1 ((0, (x1.2.1, (x1.2.2.1, (x1.2.2.2.1, (0, (Bool.false, (Bool.false, (0, 0))))))))))))))))))))))))
theorem F39_eq (N : Nat) (x1 : (Int × (Int × (Int × (Int × (Int × Int)))))) : g39' N x1 = F39 N x1 := by
  refine (e39 N x1).trans ?_
  simp only [F52_eq, F53_eq, F54_eq, F55_eq, F56_eq, F57_eq, F58_eq, F59_eq, F39]
def g12' (N : Nat) (x1 : Int) : Option ((Int × (Int × (Int × (Int × (Int × (Bool × (Bool × (Int × Int)))))))) × Int) := f12 N (x1)
theorem e12 (N : Nat) (x1 : Int) : g12' N x1 =
  bindS (g40' N x1) (fun (y0 : Int × Int × Int × Int × Int × Int) => bindS (g39' N y0) (fun (y1 : Int × Int × Int × Int × Int × Bool × Bool × Int × Int) => br (Decidable.decide (y1.1 = 0))
 (some (((0, (0, (0, (0, (0, (Bool.false, (Bool.false, (0, 0)))))))), 2)))
 (bindS (g33' N y1) (fun (y2 : Int × Int × Int × Int × Int × Bool × Bool × Int × Int) => some ((y2, 0)))))) := by kernel_rfl
def F12 (N : Nat) (x1 : Int) : Option ((Int × (Int × (Int × (Int × (Int × (Bool × (Bool × (Int × Int)))))))) × Int) :=
  bindS (F40 N x1) (fun (y0 : Int × Int × Int × Int × Int × Int) => bindS (F39 N y0) (fun (y1 : Int × Int × Int × Int × Int × Bool × Bool × Int × Int) => br (Decidable.decide (y1.1 = 0))
 (some (((0, (0, (0, (0, (0, (Bool.false, (Bool.false, (0, 0)))))))), 2)))
 (bindS (F33 N y1) (fun (y2 : Int × Int × Int × Int × Int × Bool × Bool × Int × Int) => some ((y2, 0))))))
theorem F12_eq (N : Nat) (x1 : Int) : g12' N x1 = F12 N x1 := by
  refine (e12 N x1).trans ?_
  simp only [F33_eq, F39_eq, F40_eq, F12]
def g16' (N : Nat) (x1 : List Int) : Option (List (Int × (Int × (Int × (Int × (Int × (Bool × (Bool × (Int × Int))))))))) := f16 N (x1)
theorem e16 (N : Nat) (x1 : List Int) : g16' N x1 =
  fixN N (fun again0 (y1 : List Int × List (Int × Int × Int × Int × Int × Bool × Bool × Int × Int)) => br (Decidable.decide (4 ≤ (↑y1.1.length : Int)))
 (chk (Nat.ble 4 y1.1.length) (bindS (g42' N ((List.take (4 - 0) (List.drop (0 + 0) y1.1)))) (fun (y2 : Int) => bindS (g12' N ((IntKind.u32.wrap y2))) (fun (y3 : (Int × Int × Int × Int × Int × Bool × Bool × Int × Int) × Int) => chk (Decidable.decide ((y1.2.length + [y3.1].length) * 64 ≤ lim)) (chk (Nat.ble 4 y1.1.length && y1.1.length.ble y1.1.length) (again0 ((List.take (y1.1.length - 4) (List.drop (0 + 4) y1.1), y1.2 ++ [y3.1]))))))))
 (some y1.2))
 ((x1, [])) := by kernel_rfl
def F16 (N : Nat) (x1 : List Int) : Option (List (Int × (Int × (Int × (Int × (Int × (Bool × (Bool × (Int × Int))))))))) :=
  fixN N (fun again0 (y1 : List Int × List (Int × Int × Int × Int × Int × Bool × Bool × Int × Int)) => br (Decidable.decide (4 ≤ (↑y1.1.length : Int)))
 (chk (Nat.ble 4 y1.1.length) (bindS (F42 N ((List.take (4 - 0) (List.drop (0 + 0) y1.1)))) (fun (y2 : Int) => bindS (F12 N ((IntKind.u32.wrap y2))) (fun (y3 : (Int × Int × Int × Int × Int × Bool × Bool × Int × Int) × Int) => chk (Decidable.decide ((y1.2.length + [y3.1].length) * 64 ≤ lim)) (chk (Nat.ble 4 y1.1.length && y1.1.length.ble y1.1.length) (again0 ((List.take (y1.1.length - 4) (List.drop (0 + 4) y1.1), y1.2 ++ [y3.1]))))))))
 (some y1.2))
 ((x1, []))
theorem F16_eq (N : Nat) (x1 : List Int) : g16' N x1 = F16 N x1 := by
  refine (e16 N x1).trans ?_
  simp only [F12_eq, F42_eq, F16]
def g7' (N : Nat)  : Option (Bool) := f7 N ()
theorem e7 (N : Nat)  : g7' N  =
  bindS (g8' N ((22, 1, 0, 0, 10, Bool.false, Bool.false, 0, 0))) (fun (y0 : Int × Int) => bindS (g8' N ((22, 1, 0, 0, 2048, Bool.false, Bool.false, 0, 0))) (fun (y1 : Int × Int) => jp (fun (y2 : Bool) => some y2)
 (fun K3 => br (Decidable.decide (y0.2 = 0))
 (br (Decidable.decide (y1.2 = 1))
 (br (Decidable.decide (y0.1 = 10485907))
 (bindS (g10' N ((52, 0, 0, 0, 0, Bool.false, Bool.false, 0, 0))) (fun (y4 : Bool) => br y4
 (bindS (g16' N ([0, 0, 0, 0, 1])) (fun (y5 : List (Int × Int × Int × Int × Int × Bool × Bool × Int × Int)) => K3 (Decidable.decide ((↑y5.length : Int) = 1))))
 (K3 Bool.false)))
 (K3 Bool.false))
 (K3 Bool.false))
 (K3 Bool.false)))) := by kernel_rfl
def F7 (N : Nat)  : Option (Bool) :=
  bindS (F8 N ((22, 1, 0, 0, 10, Bool.false, Bool.false, 0, 0))) (fun (y0 : Int × Int) => bindS (F8 N ((22, 1, 0, 0, 2048, Bool.false, Bool.false, 0, 0))) (fun (y1 : Int × Int) => jp (fun (y2 : Bool) => some y2)
 (fun K3 => br (Decidable.decide (y0.2 = 0))
 (br (Decidable.decide (y1.2 = 1))
 (br (Decidable.decide (y0.1 = 10485907))
 (bindS (F10 N ((52, 0, 0, 0, 0, Bool.false, Bool.false, 0, 0))) (fun (y4 : Bool) => br y4
 (bindS (F16 N ([0, 0, 0, 0, 1])) (fun (y5 : List (Int × Int × Int × Int × Int × Bool × Bool × Int × Int)) => K3 (Decidable.decide ((↑y5.length : Int) = 1))))
 (K3 Bool.false)))
 (K3 Bool.false))
 (K3 Bool.false))
 (K3 Bool.false))))
theorem F7_eq (N : Nat)  : g7' N  = F7 N  := by
  refine (e7 N ).trans ?_
  simp only [F10_eq, F16_eq, F8_eq, F7]
def g25' (N : Nat) (x1 : Int) : Option (Int) := f25 N (x1)
theorem e25 (N : Nat) (x1 : Int) : g25' N x1 =
  br (Decidable.decide (x1 < 1))
 (some 0)
 (fixN N (fun again0 (y1 : Int × Int) => br (Decidable.decide (y1.2 < (↑[2, 2, 6, 7, 4, 13, 15, 2, 2, 2, 2, 18].length : Int)))
 (chk (Decidable.decide (0 ≤ y1.2) && Decidable.decide (y1.2 < (↑[2, 2, 6, 7, 4, 13, 15, 2, 2, 2, 2, 18].length : Int))) (br (Decidable.decide (y1.1 ≤ [2, 2, 6, 7, 4, 13, 15, 2, 2, 2, 2, 18].getD y1.2.toNat 0))
 (some (IntKind.i64.wrap (y1.2 + 1)))
 (chk (Decidable.decide (0 ≤ y1.2) && Decidable.decide (y1.2 < (↑[2, 2, 6, 7, 4, 13, 15, 2, 2, 2, 2, 18].length : Int))) (again0 ((IntKind.i64.wrap (y1.1 - [2, 2, 6, 7, 4, 13, 15, 2, 2, 2, 2, 18].getD y1.2.toNat 0), IntKind.i64.wrap (y1.2 + 1)))))))
 (some 0))
 ((x1, 0))) := by kernel_rfl
def F25 (N : Nat) (x1 : Int) : Option (Int) :=
  br (Decidable.decide (x1 < 1))
 (some 0)
 (fixN N (fun again0 (y1 : Int × Int) => br (Decidable.decide (y1.2 < (↑[2, 2, 6, 7, 4, 13, 15, 2, 2, 2, 2, 18].length : Int)))
 (chk (Decidable.decide (0 ≤ y1.2) && Decidable.decide (y1.2 < (↑[2, 2, 6, 7, 4, 13, 15, 2, 2, 2, 2, 18].length : Int))) (br (Decidable.decide (y1.1 ≤ [2, 2, 6, 7, 4, 13, 15, 2, 2, 2, 2, 18].getD y1.2.toNat 0))
 (some (IntKind.i64.wrap (y1.2 + 1)))
 (chk (Decidable.decide (0 ≤ y1.2) && Decidable.decide (y1.2 < (↑[2, 2, 6, 7, 4, 13, 15, 2, 2, 2, 2, 18].length : Int))) (again0 ((IntKind.i64.wrap (y1.1 - [2, 2, 6, 7, 4, 13, 15, 2, 2, 2, 2, 18].getD y1.2.toNat 0), IntKind.i64.wrap (y1.2 + 1)))))))
 (some 0))
 ((x1, 0)))
theorem F25_eq (N : Nat) (x1 : Int) : g25' N x1 = F25 N x1 := by
  refine (e25 N x1).trans ?_
  rfl
def g26' (N : Nat) (x1 : Int) : Option (Bool) := f26 N (x1)
theorem e26 (N : Nat) (x1 : Int) : g26' N x1 =
  bindS (g25' N x1) (fun (y0 : Int) => jp (fun (y1 : Bool) => some y1)
 (fun K2 => br (!Decidable.decide (y0 = 0))
 (br (!Decidable.decide (y0 = 3))
 (br (!Decidable.decide (y0 = 5))
 (br (!Decidable.decide (y0 = 8))
 (K2 (!Decidable.decide (y0 = 9)))
 (K2 Bool.false))
 (K2 Bool.false))
 (K2 Bool.false))
 (K2 Bool.false))) := by kernel_rfl
def F26 (N : Nat) (x1 : Int) : Option (Bool) :=
  bindS (F25 N x1) (fun (y0 : Int) => jp (fun (y1 : Bool) => some y1)
 (fun K2 => br (!Decidable.decide (y0 = 0))
 (br (!Decidable.decide (y0 = 3))
 (br (!Decidable.decide (y0 = 5))
 (br (!Decidable.decide (y0 = 8))
 (K2 (!Decidable.decide (y0 = 9)))
 (K2 Bool.false))
 (K2 Bool.false))
 (K2 Bool.false))
 (K2 Bool.false)))
theorem F26_eq (N : Nat) (x1 : Int) : g26' N x1 = F26 N x1 := by
  refine (e26 N x1).trans ?_
  simp only [F25_eq, F26]
def g67' (N : Nat)  : Option (List (List UInt8)) := f67 N ()
theorem e67 (N : Nat)  : g67' N  =
  some ([[108, 117, 105], [97, 117, 105, 112, 99], [106, 97, 108], [106, 97, 108, 114], [98, 101, 113], [98, 110, 101],
  [98, 108, 116], [98, 103, 101], [98, 108, 116, 117], [98, 103, 101, 117], [108, 98], [108, 104], [108, 119],
  [108, 100], [108, 98, 117], [108, 104, 117], [108, 119, 117], [115, 98], [115, 104], [115, 119], [115, 100],
  [97, 100, 100, 105], [115, 108, 116, 105], [115, 108, 116, 105, 117], [120, 111, 114, 105], [111, 114, 105],
  [97, 110, 100, 105], [115, 108, 108, 105], [115, 114, 108, 105], [115, 114, 97, 105], [97, 100, 100, 105, 119],
  [115, 108, 108, 105, 119], [115, 114, 108, 105, 119], [115, 114, 97, 105, 119], [97, 100, 100], [115, 117, 98],
  [115, 108, 108], [115, 108, 116], [115, 108, 116, 117], [120, 111, 114], [115, 114, 108], [115, 114, 97], [111, 114],
  [97, 110, 100], [97, 100, 100, 119], [115, 117, 98, 119], [115, 108, 108, 119], [115, 114, 108, 119],
  [115, 114, 97, 119], [102, 101, 110, 99, 101], [102, 101, 110, 99, 101, 46, 116, 115, 111], [101, 99, 97, 108, 108],
  [101, 98, 114, 101, 97, 107], [108, 114, 46, 119], [108, 114, 46, 100], [115, 99, 46, 119], [115, 99, 46, 100],
  [97, 109, 111, 115, 119, 97, 112, 46, 119], [97, 109, 111, 97, 100, 100, 46, 119],
  [97, 109, 111, 120, 111, 114, 46, 119], [97, 109, 111, 97, 110, 100, 46, 119], [97, 109, 111, 111, 114, 46, 119],
  [97, 109, 111, 109, 105, 110, 46, 119], [97, 109, 111, 109, 97, 120, 46, 119],
  [97, 109, 111, 109, 105, 110, 117, 46, 119], [97, 109, 111, 109, 97, 120, 117, 46, 119],
  [97, 109, 111, 115, 119, 97, 112, 46, 100], [97, 109, 111, 97, 100, 100, 46, 100],
  [97, 109, 111, 120, 111, 114, 46, 100], [97, 109, 111, 97, 110, 100, 46, 100], [97, 109, 111, 111, 114, 46, 100],
  [97, 109, 111, 109, 105, 110, 46, 100], [97, 109, 111, 109, 97, 120, 46, 100],
  [97, 109, 111, 109, 105, 110, 117, 46, 100], [97, 109, 111, 109, 97, 120, 117, 46, 100]]) := by kernel_rfl
def F67 (N : Nat)  : Option (List (List UInt8)) :=
  some ([[108, 117, 105], [97, 117, 105, 112, 99], [106, 97, 108], [106, 97, 108, 114], [98, 101, 113], [98, 110, 101],
  [98, 108, 116], [98, 103, 101], [98, 108, 116, 117], [98, 103, 101, 117], [108, 98], [108, 104], [108, 119],
  [108, 100], [108, 98, 117], [108, 104, 117], [108, 119, 117], [115, 98], [115, 104], [115, 119], [115, 100],
  [97, 100, 100, 105], [115, 108, 116, 105], [115, 108, 116, 105, 117], [120, 111, 114, 105], [111, 114, 105],
  [97, 110, 100, 105], [115, 108, 108, 105], [115, 114, 108, 105], [115, 114, 97, 105], [97, 100, 100, 105, 119],
  [115, 108, 108, 105, 119], [115, 114, 108, 105, 119], [115, 114, 97, 105, 119], [97, 100, 100], [115, 117, 98],
  [115, 108, 108], [115, 108, 116], [115, 108, 116, 117], [120, 111, 114], [115, 114, 108], [115, 114, 97], [111, 114],
  [97, 110, 100], [97, 100, 100, 119], [115, 117, 98, 119], [115, 108, 108, 119], [115, 114, 108, 119],
  [115, 114, 97, 119], [102, 101, 110, 99, 101], [102, 101, 110, 99, 101, 46, 116, 115, 111], [101, 99, 97, 108, 108],
  [101, 98, 114, 101, 97, 107], [108, 114, 46, 119], [108, 114, 46, 100], [115, 99, 46, 119], [115, 99, 46, 100],
  [97, 109, 111, 115, 119, 97, 112, 46, 119], [97, 109, 111, 97, 100, 100, 46, 119],
  [97, 109, 111, 120, 111, 114, 46, 119], [97, 109, 111, 97, 110, 100, 46, 119], [97, 109, 111, 111, 114, 46, 119],
  [97, 109, 111, 109, 105, 110, 46, 119], [97, 109, 111, 109, 97, 120, 46, 119],
  [97, 109, 111, 109, 105, 110, 117, 46, 119], [97, 109, 111, 109, 97, 120, 117, 46, 119],
  [97, 109, 111, 115, 119, 97, 112, 46, 100], [97, 109, 111, 97, 100, 100, 46, 100],
  [97, 109, 111, 120, 111, 114, 46, 100], [97, 109, 111, 97, 110, 100, 46, 100], [97, 109, 111, 111, 114, 46, 100],
  [97, 109, 111, 109, 105, 110, 46, 100], [97, 109, 111, 109, 97, 120, 46, 100],
  [97, 109, 111, 109, 105, 110, 117, 46, 100], [97, 109, 111, 109, 97, 120, 117, 46, 100]])
theorem F67_eq (N : Nat)  : g67' N  = F67 N  := by
  refine (e67 N ).trans ?_
  rfl
def g48' (N : Nat) (x1 : Int) : Option (List UInt8) := f48 N (x1)
theorem e48 (N : Nat) (x1 : Int) : g48' N x1 =
  bindS (g67' N ) (fun (y0 : List (List UInt8)) => jp (fun (y1 : Bool) => br y1
 (some [])
 (chk (Decidable.decide (0 ≤ IntKind.i64.wrap (x1 - 1)) &&
  Decidable.decide (IntKind.i64.wrap (x1 - 1) < (↑y0.length : Int))) (some (y0.getD (IntKind.i64.wrap (x1 - 1)).toNat []))))
 (fun K2 => br (Decidable.decide (x1 < 1))
 (K2 Bool.true)
 (K2 (Decidable.decide ((↑y0.length : Int) < x1))))) := by kernel_rfl
def F48 (N : Nat) (x1 : Int) : Option (List UInt8) :=
  bindS (F67 N ) (fun (y0 : List (List UInt8)) => jp (fun (y1 : Bool) => br y1
 (some [])
 (chk (Decidable.decide (0 ≤ IntKind.i64.wrap (x1 - 1)) &&
  Decidable.decide (IntKind.i64.wrap (x1 - 1) < (↑y0.length : Int))) (some (y0.getD (IntKind.i64.wrap (x1 - 1)).toNat []))))
 (fun K2 => br (Decidable.decide (x1 < 1))
 (K2 Bool.true)
 (K2 (Decidable.decide ((↑y0.length : Int) < x1)))))
theorem F48_eq (N : Nat) (x1 : Int) : g48' N x1 = F48 N x1 := by
  refine (e48 N x1).trans ?_
  simp only [F67_eq, F48]
def g27' (N : Nat) (x1 : Int) : Option (Bool) := f27 N (x1)
theorem e27 (N : Nat) (x1 : Int) : g27' N x1 =
  bindS (g25' N x1) (fun (y0 : Int) => jp (fun (y1 : Bool) => some y1)
 (fun K2 => bindS (g48' N x1) (fun (y3 : List UInt8) => br (y3 == [106, 97, 108, 114])
 (K2 Bool.true)
 (br (Decidable.decide (3 ≤ y0))
 (br (Decidable.decide (y0 ≤ 7))
 (K2 Bool.true)
 (K2 (Decidable.decide (10 ≤ y0))))
 (K2 (Decidable.decide (10 ≤ y0))))))) := by kernel_rfl
def F27 (N : Nat) (x1 : Int) : Option (Bool) :=
  bindS (F25 N x1) (fun (y0 : Int) => jp (fun (y1 : Bool) => some y1)
 (fun K2 => bindS (F48 N x1) (fun (y3 : List UInt8) => br (y3 == [106, 97, 108, 114])
 (K2 Bool.true)
 (br (Decidable.decide (3 ≤ y0))
 (br (Decidable.decide (y0 ≤ 7))
 (K2 Bool.true)
 (K2 (Decidable.decide (10 ≤ y0))))
 (K2 (Decidable.decide (10 ≤ y0)))))))
theorem F27_eq (N : Nat) (x1 : Int) : g27' N x1 = F27 N x1 := by
  refine (e27 N x1).trans ?_
  simp only [F25_eq, F48_eq, F27]
def g28' (N : Nat) (x1 : Int) : Option (Bool) := f28 N (x1)
theorem e28 (N : Nat) (x1 : Int) : g28' N x1 =
  bindS (g25' N x1) (fun (y0 : Int) => jp (fun (y1 : Bool) => some y1)
 (fun K2 => br (Decidable.decide (y0 = 3))
 (K2 Bool.true)
 (br (Decidable.decide (y0 = 5))
 (K2 Bool.true)
 (br (Decidable.decide (y0 = 7))
 (K2 Bool.true)
 (K2 (Decidable.decide (11 ≤ y0))))))) := by kernel_rfl
def F28 (N : Nat) (x1 : Int) : Option (Bool) :=
  bindS (F25 N x1) (fun (y0 : Int) => jp (fun (y1 : Bool) => some y1)
 (fun K2 => br (Decidable.decide (y0 = 3))
 (K2 Bool.true)
 (br (Decidable.decide (y0 = 5))
 (K2 Bool.true)
 (br (Decidable.decide (y0 = 7))
 (K2 Bool.true)
 (K2 (Decidable.decide (11 ≤ y0)))))))
theorem F28_eq (N : Nat) (x1 : Int) : g28' N x1 = F28 N x1 := by
  refine (e28 N x1).trans ?_
  simp only [F25_eq, F28]
def g29' (N : Nat) (x1 : Int) : Option (Int) := f29 N (x1)
theorem e29 (N : Nat) (x1 : Int) : g29' N x1 =
  bindS (g48' N x1) (fun (y0 : List UInt8) => jp (fun (y1 : Bool) => br y1
 (some 6)
 (jp (fun (y2 : Bool) => br y2
 (some 5)
 (some 0))
 (fun K3 => br (y0 == [115, 108, 108, 105, 119])
 (K3 Bool.true)
 (br (y0 == [115, 114, 108, 105, 119])
 (K3 Bool.true)
 (K3 (y0 == [115, 114, 97, 105, 119]))))))
 (fun K4 => br (y0 == [115, 108, 108, 105])
 (K4 Bool.true)
 (br (y0 == [115, 114, 108, 105])
 (K4 Bool.true)
 (K4 (y0 == [115, 114, 97, 105]))))) := by kernel_rfl
def F29 (N : Nat) (x1 : Int) : Option (Int) :=
  bindS (F48 N x1) (fun (y0 : List UInt8) => jp (fun (y1 : Bool) => br y1
 (some 6)
 (jp (fun (y2 : Bool) => br y2
 (some 5)
 (some 0))
 (fun K3 => br (y0 == [115, 108, 108, 105, 119])
 (K3 Bool.true)
 (br (y0 == [115, 114, 108, 105, 119])
 (K3 Bool.true)
 (K3 (y0 == [115, 114, 97, 105, 119]))))))
 (fun K4 => br (y0 == [115, 108, 108, 105])
 (K4 Bool.true)
 (br (y0 == [115, 114, 108, 105])
 (K4 Bool.true)
 (K4 (y0 == [115, 114, 97, 105])))))
theorem F29_eq (N : Nat) (x1 : Int) : g29' N x1 = F29 N x1 := by
  refine (e29 N x1).trans ?_
  simp only [F48_eq, F29]
def g30' (N : Nat) (x1 : Int) : Option (Int) := f30 N (x1)
theorem e30 (N : Nat) (x1 : Int) : g30' N x1 =
  bindS (g29' N x1) (fun (y0 : Int) => br (Decidable.decide (0 < y0))
 (some 0)
 (bindS (g25' N x1) (fun (y1 : Int) => br (Decidable.decide (y1 = 1))
 (some 4)
 (br (Decidable.decide (y1 = 2))
 (br (Decidable.decide (x1 = 3))
 (some 5)
 (some 1))
 (br (Decidable.decide (y1 = 3))
 (some 3)
 (jp (fun (y2 : Bool) => br y2
 (some 1)
 (br (Decidable.decide (y1 = 5))
 (some 2)
 (some 0)))
 (fun K3 => br (Decidable.decide (y1 = 4))
 (K3 Bool.true)
 (K3 (Decidable.decide (y1 = 6)))))))))) := by kernel_rfl
def F30 (N : Nat) (x1 : Int) : Option (Int) :=
  bindS (F29 N x1) (fun (y0 : Int) => br (Decidable.decide (0 < y0))
 (some 0)
 (bindS (F25 N x1) (fun (y1 : Int) => br (Decidable.decide (y1 = 1))
 (some 4)
 (br (Decidable.decide (y1 = 2))
 (br (Decidable.decide (x1 = 3))
 (some 5)
 (some 1))
 (br (Decidable.decide (y1 = 3))
 (some 3)
 (jp (fun (y2 : Bool) => br y2
 (some 1)
 (br (Decidable.decide (y1 = 5))
 (some 2)
 (some 0)))
 (fun K3 => br (Decidable.decide (y1 = 4))
 (K3 Bool.true)
 (K3 (Decidable.decide (y1 = 6))))))))))
theorem F30_eq (N : Nat) (x1 : Int) : g30' N x1 = F30 N x1 := by
  refine (e30 N x1).trans ?_
  simp only [F25_eq, F29_eq, F30]
def g31' (N : Nat) (x1 : Int) (x2 : Int) : Option (Bool) := f31 N (x1, x2)
theorem e31 (N : Nat) (x1 : Int) (x2 : Int) : g31' N x1 x2 =
  jp (fun (y0 : Bool) => br y0
 (jp (fun (y1 : Bool) => some y1)
 (fun K2 => br (Decidable.decide (-2048 ≤ x2))
 (K2 (Decidable.decide (x2 ≤ 2047)))
 (K2 Bool.false)))
 (br (Decidable.decide (x1 = 3))
 (jp (fun (y3 : Bool) => some y3)
 (fun K4 => br (Decidable.decide (-4096 ≤ x2))
 (br (Decidable.decide (x2 ≤ 4095))
 (K4 (Decidable.decide (x2.tmod 2 = 0)))
 (K4 Bool.false))
 (K4 Bool.false)))
 (br (Decidable.decide (x1 = 4))
 (jp (fun (y5 : Bool) => some y5)
 (fun K6 => br (Decidable.decide (-2147483648 ≤ x2))
 (br (Decidable.decide (x2 ≤ 2147483647))
 (K6 (Decidable.decide (x2.tmod 4096 = 0)))
 (K6 Bool.false))
 (K6 Bool.false)))
 (br (Decidable.decide (x1 = 5))
 (jp (fun (y7 : Bool) => some y7)
 (fun K8 => br (Decidable.decide (-1048576 ≤ x2))
 (br (Decidable.decide (x2 ≤ 1048575))
 (K8 (Decidable.decide (x2.tmod 2 = 0)))
 (K8 Bool.false))
 (K8 Bool.false)))
 (some Bool.false)))))
 (fun K9 => br (Decidable.decide (x1 = 1))
 (K9 Bool.true)
 (K9 (Decidable.decide (x1 = 2)))) := by kernel_rfl
def F31 (N : Nat) (x1 : Int) (x2 : Int) : Option (Bool) :=
  jp (fun (y0 : Bool) => br y0
 (jp (fun (y1 : Bool) => some y1)
 (fun K2 => br (Decidable.decide (-2048 ≤ x2))
 (K2 (Decidable.decide (x2 ≤ 2047)))
 (K2 Bool.false)))
 (br (Decidable.decide (x1 = 3))
 (jp (fun (y3 : Bool) => some y3)
 (fun K4 => br (Decidable.decide (-4096 ≤ x2))
 (br (Decidable.decide (x2 ≤ 4095))
 (K4 (Decidable.decide (x2.tmod 2 = 0)))
 (K4 Bool.false))
 (K4 Bool.false)))
 (br (Decidable.decide (x1 = 4))
 (jp (fun (y5 : Bool) => some y5)
 (fun K6 => br (Decidable.decide (-2147483648 ≤ x2))
 (br (Decidable.decide (x2 ≤ 2147483647))
 (K6 (Decidable.decide (x2.tmod 4096 = 0)))
 (K6 Bool.false))
 (K6 Bool.false)))
 (br (Decidable.decide (x1 = 5))
 (jp (fun (y7 : Bool) => some y7)
 (fun K8 => br (Decidable.decide (-1048576 ≤ x2))
 (br (Decidable.decide (x2 ≤ 1048575))
 (K8 (Decidable.decide (x2.tmod 2 = 0)))
 (K8 Bool.false))
 (K8 Bool.false)))
 (some Bool.false)))))
 (fun K9 => br (Decidable.decide (x1 = 1))
 (K9 Bool.true)
 (K9 (Decidable.decide (x1 = 2))))
theorem F31_eq (N : Nat) (x1 : Int) (x2 : Int) : g31' N x1 x2 = F31 N x1 x2 := by
  refine (e31 N x1 x2).trans ?_
  rfl
def g9' (N : Nat) (x1 : (Int × (Int × (Int × (Int × (Int × (Bool × (Bool × (Int × Int))))))))) : Option (Bool) := f9 N (x1)
theorem e9 (N : Nat) (x1 : (Int × (Int × (Int × (Int × (Int × (Bool × (Bool × (Int × Int))))))))) : g9' N x1 =
  bindS (g25' N x1.1) (fun (y0 : Int) => jp (fun (y1 : Bool) => br y1
 (some Bool.false)
 (jp (fun (y2 : Bool) => br y2
 (some Bool.false)
 (bindS (g29' N x1.1) (fun (y3 : Int) => bindS (g30' N x1.1) (fun (y4 : Int) => jp (fun (y5 : Bool) => br y5
 (some Bool.false)
 (jp (fun (y6 : Bool) => br y6
 (some Bool.false)
 (jp (fun (y7 : Bool) => br y7
 (some Bool.false)
 (jp (fun (y8 : Bool) => br y8
 (some Bool.false)
 (br (Decidable.decide (x1.1 = 50))
 (jp (fun (y9 : Bool) => some y9)
 (fun K10 => br (Decidable.decide (0 ≤ x1.2.2.2.2.2.2.2.1))
 (br (Decidable.decide (x1.2.2.2.2.2.2.2.1 < 16))
 (br (Decidable.decide (0 ≤ x1.2.2.2.2.2.2.2.2))
 (K10 (Decidable.decide (x1.2.2.2.2.2.2.2.2 < 16)))
 (K10 Bool.false))
 (K10 Bool.false))
 (K10 Bool.false)))
 (br (Decidable.decide (x1.1 = 51))
 (jp (fun (y11 : Bool) => some y11)
 (fun K12 => br (Decidable.decide (x1.2.2.2.2.2.2.2.1 = 3))
 (K12 (Decidable.decide (x1.2.2.2.2.2.2.2.2 = 3)))
 (K12 Bool.false)))
 (jp (fun (y13 : Bool) => some y13)
 (fun K14 => br (Decidable.decide (x1.2.2.2.2.2.2.2.1 = 0))
 (K14 (Decidable.decide (x1.2.2.2.2.2.2.2.2 = 0)))
 (K14 Bool.false))))))
 (fun K15 => br (Decidable.decide (0 < y4))
 (bindS (g31' N y4 x1.2.2.2.2.1) (fun (y16 : Bool) => K15 (!y16)))
 (K15 Bool.false))))
 (fun K17 => br (Decidable.decide (y3 = 0))
 (br (Decidable.decide (y4 = 0))
 (K17 (!Decidable.decide (x1.2.2.2.2.1 = 0)))
 (K17 Bool.false))
 (K17 Bool.false))))
 (fun K18 => br (Decidable.decide (y3 = 5))
 (br (Decidable.decide (x1.2.2.2.2.1 < 0))
 (K18 Bool.true)
 (K18 (Decidable.decide (31 < x1.2.2.2.2.1))))
 (K18 Bool.false))))
 (fun K19 => br (Decidable.decide (y3 = 6))
 (br (Decidable.decide (x1.2.2.2.2.1 < 0))
 (K19 Bool.true)
 (K19 (Decidable.decide (63 < x1.2.2.2.2.1))))
 (K19 Bool.false))))))
 (fun K20 => bindS (g26' N x1.1) (fun (y21 : Bool) => br (!y21)
 (br (!Decidable.decide (x1.2.1 = 0))
 (K20 Bool.true)
 (bindS (g27' N x1.1) (fun (y22 : Bool) => br (!y22)
 (br (!Decidable.decide (x1.2.2.1 = 0))
 (K20 Bool.true)
 (bindS (g28' N x1.1) (fun (y23 : Bool) => br (!y23)
 (br (!Decidable.decide (x1.2.2.2.1 = 0))
 (K20 Bool.true)
 (br (Decidable.decide (y0 < 10))
 (br x1.2.2.2.2.2.1
 (K20 Bool.true)
 (K20 x1.2.2.2.2.2.2.1))
 (K20 Bool.false)))
 (br (Decidable.decide (y0 < 10))
 (br x1.2.2.2.2.2.1
 (K20 Bool.true)
 (K20 x1.2.2.2.2.2.2.1))
 (K20 Bool.false)))))
 (bindS (g28' N x1.1) (fun (y24 : Bool) => br (!y24)
 (br (!Decidable.decide (x1.2.2.2.1 = 0))
 (K20 Bool.true)
 (br (Decidable.decide (y0 < 10))
 (br x1.2.2.2.2.2.1
 (K20 Bool.true)
 (K20 x1.2.2.2.2.2.2.1))
 (K20 Bool.false)))
 (br (Decidable.decide (y0 < 10))
 (br x1.2.2.2.2.2.1
 (K20 Bool.true)
 (K20 x1.2.2.2.2.2.2.1))
 (K20 Bool.false)))))))
 (bindS (g27' N x1.1) (fun (y25 : Bool) => br (!y25)
 (br (!Decidable.decide (x1.2.2.1 = 0))
 (K20 Bool.true)
 (bindS (g28' N x1.1) (fun (y26 : Bool) => br (!y26)
 (br (!Decidable.decide (x1.2.2.2.1 = 0))
 (K20 Bool.true)
 (br (Decidable.decide (y0 < 10))
 (br x1.2.2.2.2.2.1
 (K20 Bool.true)
 (K20 x1.2.2.2.2.2.2.1))
 (K20 Bool.false)))
 (br (Decidable.decide (y0 < 10))
 (br x1.2.2.2.2.2.1
 (K20 Bool.true)
 (K20 x1.2.2.2.2.2.2.1))
 (K20 Bool.false)))))
 (bindS (g28' N x1.1) (fun (y27 : Bool) => br (!y27)
 (br (!Decidable.decide (x1.2.2.2.1 = 0))
 (K20 Bool.true)
 (br (Decidable.decide (y0 < 10))
 (br x1.2.2.2.2.2.1
 (K20 Bool.true)
 (K20 x1.2.2.2.2.2.2.1))
 (K20 Bool.false)))
 (br (Decidable.decide (y0 < 10))
 (br x1.2.2.2.2.2.1
 (K20 Bool.true)
 (K20 x1.2.2.2.2.2.2.1))
 (K20 Bool.false))))))))))
 (fun K28 => br (Decidable.decide (y0 = 0))
 (K28 Bool.true)
 (br (Decidable.decide (x1.2.1 < 0))
 (K28 Bool.true)
 (br (Decidable.decide (31 < x1.2.1))
 (K28 Bool.true)
 (br (Decidable.decide (x1.2.2.1 < 0))
 (K28 Bool.true)
 (br (Decidable.decide (31 < x1.2.2.1))
 (K28 Bool.true)
 (br (Decidable.decide (x1.2.2.2.1 < 0))
 (K28 Bool.true)
 (K28 (Decidable.decide (31 < x1.2.2.2.1)))))))))) := by kernel_rfl
def F9 (N : Nat) (x1 : (Int × (Int × (Int × (Int × (Int × (Bool × (Bool × (Int × Int))))))))) : Option (Bool) :=
  bindS (F25 N x1.1) (fun (y0 : Int) => jp (fun (y1 : Bool) => br y1
 (some Bool.false)
 (jp (fun (y2 : Bool) => br y2
 (some Bool.false)
 (bindS (F29 N x1.1) (fun (y3 : Int) => bindS (F30 N x1.1) (fun (y4 : Int) => jp (fun (y5 : Bool) => br y5
 (some Bool.false)
 (jp (fun (y6 : Bool) => br y6
 (some Bool.false)
 (jp (fun (y7 : Bool) => br y7
 (some Bool.false)
 (jp (fun (y8 : Bool) => br y8
 (some Bool.false)
 (br (Decidable.decide (x1.1 = 50))
 (jp (fun (y9 : Bool) => some y9)
 (fun K10 => br (Decidable.decide (0 ≤ x1.2.2.2.2.2.2.2.1))
 (br (Decidable.decide (x1.2.2.2.2.2.2.2.1 < 16))
 (br (Decidable.decide (0 ≤ x1.2.2.2.2.2.2.2.2))
 (K10 (Decidable.decide (x1.2.2.2.2.2.2.2.2 < 16)))
 (K10 Bool.false))
 (K10 Bool.false))
 (K10 Bool.false)))
 (br (Decidable.decide (x1.1 = 51))
 (jp (fun (y11 : Bool) => some y11)
 (fun K12 => br (Decidable.decide (x1.2.2.2.2.2.2.2.1 = 3))
 (K12 (Decidable.decide (x1.2.2.2.2.2.2.2.2 = 3)))
 (K12 Bool.false)))
 (jp (fun (y13 : Bool) => some y13)
 (fun K14 => br (Decidable.decide (x1.2.2.2.2.2.2.2.1 = 0))
 (K14 (Decidable.decide (x1.2.2.2.2.2.2.2.2 = 0)))
 (K14 Bool.false))))))
 (fun K15 => br (Decidable.decide (0 < y4))
 (bindS (F31 N y4 x1.2.2.2.2.1) (fun (y16 : Bool) => K15 (!y16)))
 (K15 Bool.false))))
 (fun K17 => br (Decidable.decide (y3 = 0))
 (br (Decidable.decide (y4 = 0))
 (K17 (!Decidable.decide (x1.2.2.2.2.1 = 0)))
 (K17 Bool.false))
 (K17 Bool.false))))
 (fun K18 => br (Decidable.decide (y3 = 5))
 (br (Decidable.decide (x1.2.2.2.2.1 < 0))
 (K18 Bool.true)
 (K18 (Decidable.decide (31 < x1.2.2.2.2.1))))
 (K18 Bool.false))))
 (fun K19 => br (Decidable.decide (y3 = 6))
 (br (Decidable.decide (x1.2.2.2.2.1 < 0))
 (K19 Bool.true)
 (K19 (Decidable.decide (63 < x1.2.2.2.2.1))))
 (K19 Bool.false))))))
 (fun K20 => bindS (F26 N x1.1) (fun (y21 : Bool) => br (!y21)
 (br (!Decidable.decide (x1.2.1 = 0))
 (K20 Bool.true)
 (bindS (F27 N x1.1) (fun (y22 : Bool) => br (!y22)
 (br (!Decidable.decide (x1.2.2.1 = 0))
 (K20 Bool.true)
 (bindS (F28 N x1.1) (fun (y23 : Bool) => br (!y23)
 (br (!Decidable.decide (x1.2.2.2.1 = 0))
 (K20 Bool.true)
 (br (Decidable.decide (y0 < 10))
 (br x1.2.2.2.2.2.1
 (K20 Bool.true)
 (K20 x1.2.2.2.2.2.2.1))
 (K20 Bool.false)))
 (br (Decidable.decide (y0 < 10))
 (br x1.2.2.2.2.2.1
 (K20 Bool.true)
 (K20 x1.2.2.2.2.2.2.1))
 (K20 Bool.false)))))
 (bindS (F28 N x1.1) (fun (y24 : Bool) => br (!y24)
 (br (!Decidable.decide (x1.2.2.2.1 = 0))
 (K20 Bool.true)
 (br (Decidable.decide (y0 < 10))
 (br x1.2.2.2.2.2.1
 (K20 Bool.true)
 (K20 x1.2.2.2.2.2.2.1))
 (K20 Bool.false)))
 (br (Decidable.decide (y0 < 10))
 (br x1.2.2.2.2.2.1
 (K20 Bool.true)
 (K20 x1.2.2.2.2.2.2.1))
 (K20 Bool.false)))))))
 (bindS (F27 N x1.1) (fun (y25 : Bool) => br (!y25)
 (br (!Decidable.decide (x1.2.2.1 = 0))
 (K20 Bool.true)
 (bindS (F28 N x1.1) (fun (y26 : Bool) => br (!y26)
 (br (!Decidable.decide (x1.2.2.2.1 = 0))
 (K20 Bool.true)
 (br (Decidable.decide (y0 < 10))
 (br x1.2.2.2.2.2.1
 (K20 Bool.true)
 (K20 x1.2.2.2.2.2.2.1))
 (K20 Bool.false)))
 (br (Decidable.decide (y0 < 10))
 (br x1.2.2.2.2.2.1
 (K20 Bool.true)
 (K20 x1.2.2.2.2.2.2.1))
 (K20 Bool.false)))))
 (bindS (F28 N x1.1) (fun (y27 : Bool) => br (!y27)
 (br (!Decidable.decide (x1.2.2.2.1 = 0))
 (K20 Bool.true)
 (br (Decidable.decide (y0 < 10))
 (br x1.2.2.2.2.2.1
 (K20 Bool.true)
 (K20 x1.2.2.2.2.2.2.1))
 (K20 Bool.false)))
 (br (Decidable.decide (y0 < 10))
 (br x1.2.2.2.2.2.1
 (K20 Bool.true)
 (K20 x1.2.2.2.2.2.2.1))
 (K20 Bool.false))))))))))
 (fun K28 => br (Decidable.decide (y0 = 0))
 (K28 Bool.true)
 (br (Decidable.decide (x1.2.1 < 0))
 (K28 Bool.true)
 (br (Decidable.decide (31 < x1.2.1))
 (K28 Bool.true)
 (br (Decidable.decide (x1.2.2.1 < 0))
 (K28 Bool.true)
 (br (Decidable.decide (31 < x1.2.2.1))
 (K28 Bool.true)
 (br (Decidable.decide (x1.2.2.2.1 < 0))
 (K28 Bool.true)
 (K28 (Decidable.decide (31 < x1.2.2.2.1))))))))))
theorem F9_eq (N : Nat) (x1 : (Int × (Int × (Int × (Int × (Int × (Bool × (Bool × (Int × Int))))))))) : g9' N x1 = F9 N x1 := by
  refine (e9 N x1).trans ?_
  simp only [F25_eq, F26_eq, F27_eq, F28_eq, F29_eq, F30_eq, F31_eq, F9]
def g34' (N : Nat) (x1 : Int) : Option (Int) := f34 N (x1)
theorem e34 (N : Nat) (x1 : Int) : g34' N x1 =
  bindS (g48' N x1) (fun (y0 : List UInt8) => bindS (g25' N x1) (fun (y1 : Int) => br (Decidable.decide (y1 = 0))
 (some 0)
 (chk (Decidable.decide (0 ≤ IntKind.i64.wrap ((↑y0.length : Int) - 1)) &&
  Decidable.decide (IntKind.i64.wrap ((↑y0.length : Int) - 1) < (↑y0.length : Int))) (br (y0 == [108, 117, 105])
 (some 55)
 (br (y0 == [97, 117, 105, 112, 99])
 (some 23)
 (br (y0 == [106, 97, 108])
 (some 111)
 (br (y0 == [106, 97, 108, 114])
 (some 103)
 (br (Decidable.decide (y1 = 3))
 (some 99)
 (br (Decidable.decide (y1 = 4))
 (some 3)
 (br (Decidable.decide (y1 = 5))
 (some 35)
 (jp (fun (y2 : Bool) => br y2
 (some 27)
 (br (Decidable.decide (y1 = 6))
 (some 19)
 (jp (fun (y3 : Bool) => br y3
 (some 59)
 (br (Decidable.decide (y1 = 7))
 (some 51)
 (br (Decidable.decide (y1 = 8))
 (some 15)
 (br (Decidable.decide (y1 = 9))
 (some 115)
 (some 47)))))
 (fun K4 => br (Decidable.decide (y1 = 7))
 (K4 (Decidable.decide ((↑(y0.getD (IntKind.i64.wrap ((↑y0.length : Int) - 1)).toNat 0).toNat : Int) = 119)))
 (K4 Bool.false)))))
 (fun K5 => br (Decidable.decide (y1 = 6))
 (K5 (Decidable.decide ((↑(y0.getD (IntKind.i64.wrap ((↑y0.length : Int) - 1)).toNat 0).toNat : Int) = 119)))
 (K5 Bool.false))))))))))))) := by kernel_rfl
def F34 (N : Nat) (x1 : Int) : Option (Int) :=
  bindS (F48 N x1) (fun (y0 : List UInt8) => bindS (F25 N x1) (fun (y1 : Int) => br (Decidable.decide (y1 = 0))
 (some 0)
 (chk (Decidable.decide (0 ≤ IntKind.i64.wrap ((↑y0.length : Int) - 1)) &&
  Decidable.decide (IntKind.i64.wrap ((↑y0.length : Int) - 1) < (↑y0.length : Int))) (br (y0 == [108, 117, 105])
 (some 55)
 (br (y0 == [97, 117, 105, 112, 99])
 (some 23)
 (br (y0 == [106, 97, 108])
 (some 111)
 (br (y0 == [106, 97, 108, 114])
 (some 103)
 (br (Decidable.decide (y1 = 3))
 (some 99)
 (br (Decidable.decide (y1 = 4))
 (some 3)
 (br (Decidable.decide (y1 = 5))
 (some 35)
 (jp (fun (y2 : Bool) => br y2
 (some 27)
 (br (Decidable.decide (y1 = 6))
 (some 19)
 (jp (fun (y3 : Bool) => br y3
 (some 59)
 (br (Decidable.decide (y1 = 7))
 (some 51)
 (br (Decidable.decide (y1 = 8))
 (some 15)
 (br (Decidable.decide (y1 = 9))
 (some 115)
 (some 47)))))
 (fun K4 => br (Decidable.decide (y1 = 7))
 (K4 (Decidable.decide ((↑(y0.getD (IntKind.i64.wrap ((↑y0.length : Int) - 1)).toNat 0).toNat : Int) = 119)))
 (K4 Bool.false)))))
 (fun K5 => br (Decidable.decide (y1 = 6))
 (K5 (Decidable.decide ((↑(y0.getD (IntKind.i64.wrap ((↑y0.length : Int) - 1)).toNat 0).toNat : Int) = 119)))
 (K5 Bool.false)))))))))))))
theorem F34_eq (N : Nat) (x1 : Int) : g34' N x1 = F34 N x1 := by
  refine (e34 N x1).trans ?_
  simp only [F25_eq, F48_eq, F34]
def g35' (N : Nat) (x1 : Int) : Option (Int) := f35 N (x1)
theorem e35 (N : Nat) (x1 : Int) : g35' N x1 =
  bindS (g25' N x1) (fun (y0 : Int) => bindS (g48' N x1) (fun (y1 : List UInt8) => br (Decidable.decide (y0 = 3))
 (chk (Decidable.decide (0 ≤ IntKind.i64.wrap (x1 - 5)) &&
  Decidable.decide (IntKind.i64.wrap (x1 - 5) < (↑[0, 1, 4, 5, 6, 7].length : Int))) (some ([0, 1, 4, 5, 6, 7].getD (IntKind.i64.wrap (x1 - 5)).toNat 0)))
 (br (Decidable.decide (y0 = 4))
 (some (IntKind.u32.wrap (IntKind.i64.wrap (x1 - 11))))
 (br (Decidable.decide (y0 = 5))
 (some (IntKind.u32.wrap (IntKind.i64.wrap (x1 - 18))))
 (jp (fun (y2 : Bool) => br y2
 (chk (Decidable.decide (0 ≤ IntKind.i64.wrap ((↑y1.length : Int) - 1)) &&
  Decidable.decide (IntKind.i64.wrap ((↑y1.length : Int) - 1) < (↑y1.length : Int))) (br (Decidable.decide ((↑(y1.getD (IntKind.i64.wrap ((↑y1.length : Int) - 1)).toNat 0).toNat : Int) = 119))
 (some 2)
 (some 3)))
 (jp (fun (y3 : Bool) => br y3
 (some 0)
 (jp (fun (y4 : Bool) => br y4
 (some 1)
 (jp (fun (y5 : Bool) => br y5
 (some 2)
 (jp (fun (y6 : Bool) => br y6
 (some 3)
 (jp (fun (y7 : Bool) => br y7
 (some 4)
 (jp (fun (y8 : Bool) => br y8
 (some 5)
 (jp (fun (y9 : Bool) => br y9
 (some 6)
 (jp (fun (y10 : Bool) => br y10
 (some 7)
 (some 0))
 (fun K11 => br (y1 == [97, 110, 100])
 (K11 Bool.true)
 (K11 (y1 == [97, 110, 100, 105])))))
 (fun K12 => br (y1 == [111, 114])
 (K12 Bool.true)
 (K12 (y1 == [111, 114, 105])))))
 (fun K13 => br (y1 == [115, 114, 108])
 (K13 Bool.true)
 (br (y1 == [115, 114, 108, 105])
 (K13 Bool.true)
 (br (y1 == [115, 114, 108, 119])
 (K13 Bool.true)
 (br (y1 == [115, 114, 108, 105, 119])
 (K13 Bool.true)
 (br (y1 == [115, 114, 97])
 (K13 Bool.true)
 (br (y1 == [115, 114, 97, 105])
 (K13 Bool.true)
 (br (y1 == [115, 114, 97, 119])
 (K13 Bool.true)
 (K13 (y1 == [115, 114, 97, 105, 119])))))))))))
 (fun K14 => br (y1 == [120, 111, 114])
 (K14 Bool.true)
 (K14 (y1 == [120, 111, 114, 105])))))
 (fun K15 => br (y1 == [115, 108, 116, 117])
 (K15 Bool.true)
 (K15 (y1 == [115, 108, 116, 105, 117])))))
 (fun K16 => br (y1 == [115, 108, 116])
 (K16 Bool.true)
 (K16 (y1 == [115, 108, 116, 105])))))
 (fun K17 => br (y1 == [115, 108, 108])
 (K17 Bool.true)
 (br (y1 == [115, 108, 108, 105])
 (K17 Bool.true)
 (br (y1 == [115, 108, 108, 119])
 (K17 Bool.true)
 (K17 (y1 == [115, 108, 108, 105, 119])))))))
 (fun K18 => br (!Decidable.decide (y0 = 6))
 (K18 (!Decidable.decide (y0 = 7)))
 (K18 Bool.false))))
 (fun K19 => br (Decidable.decide (y0 = 10))
 (K19 Bool.true)
 (br (Decidable.decide (y0 = 11))
 (K19 Bool.true)
 (K19 (Decidable.decide (y0 = 12)))))))))) := by kernel_rfl
def F35 (N : Nat) (x1 : Int) : Option (Int) :=
  bindS (F25 N x1) (fun (y0 : Int) => bindS (F48 N x1) (fun (y1 : List UInt8) => br (Decidable.decide (y0 = 3))
 (chk (Decidable.decide (0 ≤ IntKind.i64.wrap (x1 - 5)) &&
  Decidable.decide (IntKind.i64.wrap (x1 - 5) < (↑[0, 1, 4, 5, 6, 7].length : Int))) (some ([0, 1, 4, 5, 6, 7].getD (IntKind.i64.wrap (x1 - 5)).toNat 0)))
 (br (Decidable.decide (y0 = 4))
 (some (IntKind.u32.wrap (IntKind.i64.wrap (x1 - 11))))
 (br (Decidable.decide (y0 = 5))
 (some (IntKind.u32.wrap (IntKind.i64.wrap (x1 - 18))))
 (jp (fun (y2 : Bool) => br y2
 (chk (Decidable.decide (0 ≤ IntKind.i64.wrap ((↑y1.length : Int) - 1)) &&
  Decidable.decide (IntKind.i64.wrap ((↑y1.length : Int) - 1) < (↑y1.length : Int))) (br (Decidable.decide ((↑(y1.getD (IntKind.i64.wrap ((↑y1.length : Int) - 1)).toNat 0).toNat : Int) = 119))
 (some 2)
 (some 3)))
 (jp (fun (y3 : Bool) => br y3
 (some 0)
 (jp (fun (y4 : Bool) => br y4
 (some 1)
 (jp (fun (y5 : Bool) => br y5
 (some 2)
 (jp (fun (y6 : Bool) => br y6
 (some 3)
 (jp (fun (y7 : Bool) => br y7
 (some 4)
 (jp (fun (y8 : Bool) => br y8
 (some 5)
 (jp (fun (y9 : Bool) => br y9
 (some 6)
 (jp (fun (y10 : Bool) => br y10
 (some 7)
 (some 0))
 (fun K11 => br (y1 == [97, 110, 100])
 (K11 Bool.true)
 (K11 (y1 == [97, 110, 100, 105])))))
 (fun K12 => br (y1 == [111, 114])
 (K12 Bool.true)
 (K12 (y1 == [111, 114, 105])))))
 (fun K13 => br (y1 == [115, 114, 108])
 (K13 Bool.true)
 (br (y1 == [115, 114, 108, 105])
 (K13 Bool.true)
 (br (y1 == [115, 114, 108, 119])
 (K13 Bool.true)
 (br (y1 == [115, 114, 108, 105, 119])
 (K13 Bool.true)
 (br (y1 == [115, 114, 97])
 (K13 Bool.true)
 (br (y1 == [115, 114, 97, 105])
 (K13 Bool.true)
 (br (y1 == [115, 114, 97, 119])
 (K13 Bool.true)
 (K13 (y1 == [115, 114, 97, 105, 119])))))))))))
 (fun K14 => br (y1 == [120, 111, 114])
 (K14 Bool.true)
 (K14 (y1 == [120, 111, 114, 105])))))
 (fun K15 => br (y1 == [115, 108, 116, 117])
 (K15 Bool.true)
 (K15 (y1 == [115, 108, 116, 105, 117])))))
 (fun K16 => br (y1 == [115, 108, 116])
 (K16 Bool.true)
 (K16 (y1 == [115, 108, 116, 105])))))
 (fun K17 => br (y1 == [115, 108, 108])
 (K17 Bool.true)
 (br (y1 == [115, 108, 108, 105])
 (K17 Bool.true)
 (br (y1 == [115, 108, 108, 119])
 (K17 Bool.true)
 (K17 (y1 == [115, 108, 108, 105, 119])))))))
 (fun K18 => br (!Decidable.decide (y0 = 6))
 (K18 (!Decidable.decide (y0 = 7)))
 (K18 Bool.false))))
 (fun K19 => br (Decidable.decide (y0 = 10))
 (K19 Bool.true)
 (br (Decidable.decide (y0 = 11))
 (K19 Bool.true)
 (K19 (Decidable.decide (y0 = 12))))))))))
theorem F35_eq (N : Nat) (x1 : Int) : g35' N x1 = F35 N x1 := by
  refine (e35 N x1).trans ?_
  simp only [F25_eq, F48_eq, F35]
def g36' (N : Nat) (x1 : Int) : Option (Bool) := f36 N (x1)
theorem e36 (N : Nat) (x1 : Int) : g36' N x1 =
  bindS (g48' N x1) (fun (y0 : List UInt8) => jp (fun (y1 : Bool) => some y1)
 (fun K2 => br (y0 == [115, 117, 98])
 (K2 Bool.true)
 (br (y0 == [115, 117, 98, 119])
 (K2 Bool.true)
 (br (y0 == [115, 114, 97])
 (K2 Bool.true)
 (br (y0 == [115, 114, 97, 105])
 (K2 Bool.true)
 (br (y0 == [115, 114, 97, 119])
 (K2 Bool.true)
 (K2 (y0 == [115, 114, 97, 105, 119])))))))) := by kernel_rfl
def F36 (N : Nat) (x1 : Int) : Option (Bool) :=
  bindS (F48 N x1) (fun (y0 : List UInt8) => jp (fun (y1 : Bool) => some y1)
 (fun K2 => br (y0 == [115, 117, 98])
 (K2 Bool.true)
 (br (y0 == [115, 117, 98, 119])
 (K2 Bool.true)
 (br (y0 == [115, 114, 97])
 (K2 Bool.true)
 (br (y0 == [115, 114, 97, 105])
 (K2 Bool.true)
 (br (y0 == [115, 114, 97, 119])
 (K2 Bool.true)
 (K2 (y0 == [115, 114, 97, 105, 119]))))))))
theorem F36_eq (N : Nat) (x1 : Int) : g36' N x1 = F36 N x1 := by
  refine (e36 N x1).trans ?_
  simp only [F48_eq, F36]
def g51' (N : Nat) (x1 : Int) : Option (List Int) := f51 N (x1)
theorem e51 (N : Nat) (x1 : Int) : g51' N x1 =
  fixN N (fun again0 (y1 : Int × List Int) => br (Decidable.decide (y1.1 < 32))
 (jp (fun (y2 : Int) => chk (Decidable.decide (0 ≤ y1.1) && Decidable.decide (y1.1 < (↑32 : Int))) (again0 ((IntKind.i64.wrap (y1.1 + 1), setD 0 y1.2 y1.1.toNat y2))))
 (fun K3 => br (Decidable.decide (x1 = 1))
 (br (Decidable.decide (20 ≤ y1.1))
 (K3 (IntKind.i64.wrap (y1.1 - 20)))
 (K3 (-1)))
 (br (Decidable.decide (x1 = 2))
 (jp (fun (y4 : Int) => jp (fun (y5 : Bool) => br y5
 (K3 (IntKind.i64.wrap (y1.1 - 7)))
 (K3 y4))
 (fun K6 => br (Decidable.decide (7 ≤ y1.1))
 (K6 (Decidable.decide (y1.1 ≤ 11)))
 (K6 Bool.false)))
 (fun K7 => br (Decidable.decide (25 ≤ y1.1))
 (K7 (IntKind.i64.wrap (y1.1 - 20)))
 (K7 (-1))))
 (br (Decidable.decide (x1 = 3))
 (jp (fun (y8 : Int) => jp (fun (y9 : Int) => jp (fun (y10 : Int) => jp (fun (y11 : Bool) => br y11
 (K3 (IntKind.i64.wrap (y1.1 - 7)))
 (K3 y10))
 (fun K12 => br (Decidable.decide (8 ≤ y1.1))
 (K12 (Decidable.decide (y1.1 ≤ 11)))
 (K12 Bool.false)))
 (fun K13 => jp (fun (y14 : Bool) => br y14
 (K13 (IntKind.i64.wrap (y1.1 - 20)))
 (K13 y9))
 (fun K15 => br (Decidable.decide (25 ≤ y1.1))
 (K15 (Decidable.decide (y1.1 ≤ 30)))
 (K15 Bool.false))))
 (fun K16 => br (Decidable.decide (y1.1 = 7))
 (K16 11)
 (K16 y8)))
 (fun K17 => br (Decidable.decide (y1.1 = 31))
 (K17 12)
 (K17 (-1))))
 (br (Decidable.decide (x1 = 4))
 (br (Decidable.decide (12 ≤ y1.1))
 (K3 y1.1)
 (K3 (-1)))
 (br (Decidable.decide (x1 = 5))
 (jp (fun (y18 : Int) => jp (fun (y19 : Int) => jp (fun (y20 : Int) => jp (fun (y21 : Bool) => br y21
 (K3 (IntKind.i64.wrap (y1.1 - 20)))
 (K3 y20))
 (fun K22 => br (Decidable.decide (21 ≤ y1.1))
 (K22 (Decidable.decide (y1.1 ≤ 30)))
 (K22 Bool.false)))
 (fun K23 => br (Decidable.decide (y1.1 = 20))
 (K23 11)
 (K23 y19)))
 (fun K24 => jp (fun (y25 : Bool) => br y25
 (K24 y1.1)
 (K24 y18))
 (fun K26 => br (Decidable.decide (12 ≤ y1.1))
 (K26 (Decidable.decide (y1.1 ≤ 19)))
 (K26 Bool.false))))
 (fun K27 => br (Decidable.decide (y1.1 = 31))
 (K27 20)
 (K27 (-1))))
 (K3 (-1))))))))
 (some y1.2))
 ((0, [0, 0, 0, 0, 0, 0, 0, 0, 0, 0, 0, 0, 0, 0, 0, 0, 0, 0, 0, 0, 0, 0, 0, 0, 0, 0, 0, 0, 0, 0, 0, 0])) := by kernel_rfl
def F51 (N : Nat) (x1 : Int) : Option (List Int) :=
  fixN N (fun again0 (y1 : Int × List Int) => br (Decidable.decide (y1.1 < 32))
 (jp (fun (y2 : Int) => chk (Decidable.decide (0 ≤ y1.1) && Decidable.decide (y1.1 < (↑32 : Int))) (again0 ((IntKind.i64.wrap (y1.1 + 1), setD 0 y1.2 y1.1.toNat y2))))
 (fun K3 => br (Decidable.decide (x1 = 1))
 (br (Decidable.decide (20 ≤ y1.1))
 (K3 (IntKind.i64.wrap (y1.1 - 20)))
 (K3 (-1)))
 (br (Decidable.decide (x1 = 2))
 (jp (fun (y4 : Int) => jp (fun (y5 : Bool) => br y5
 (K3 (IntKind.i64.wrap (y1.1 - 7)))
 (K3 y4))
 (fun K6 => br (Decidable.decide (7 ≤ y1.1))
 (K6 (Decidable.decide (y1.1 ≤ 11)))
 (K6 Bool.false)))
 (fun K7 => br (Decidable.decide (25 ≤ y1.1))
 (K7 (IntKind.i64.wrap (y1.1 - 20)))
 (K7 (-1))))
 (br (Decidable.decide (x1 = 3))
 (jp (fun (y8 : Int) => jp (fun (y9 : Int) => jp (fun (y10 : Int) => jp (fun (y11 : Bool) => br y11
 (K3 (IntKind.i64.wrap (y1.1 - 7)))
 (K3 y10))
 (fun K12 => br (Decidable.decide (8 ≤ y1.1))
 (K12 (Decidable.decide (y1.1 ≤ 11)))
 (K12 Bool.false)))
 (fun K13 => jp (fun (y14 : Bool) => br y14
 (K13 (IntKind.i64.wrap (y1.1 - 20)))
 (K13 y9))
 (fun K15 => br (Decidable.decide (25 ≤ y1.1))
 (K15 (Decidable.decide (y1.1 ≤ 30)))
 (K15 Bool.false))))
 (fun K16 => br (Decidable.decide (y1.1 = 7))
 (K16 11)
 (K16 y8)))
 (fun K17 => br (Decidable.decide (y1.1 = 31))
 (K17 12)
 (K17 (-1))))
 (br (Decidable.decide (x1 = 4))
 (br (Decidable.decide (12 ≤ y1.1))
 (K3 y1.1)
 (K3 (-1)))
 (br (Decidable.decide (x1 = 5))
 (jp (fun (y18 : Int) => jp (fun (y19 : Int) => jp (fun (y20 : Int) => jp (fun (y21 : Bool) => br y21
 (K3 (IntKind.i64.wrap (y1.1 - 20)))
 (K3 y20))
 (fun K22 => br (Decidable.decide (21 ≤ y1.1))
 (K22 (Decidable.decide (y1.1 ≤ 30)))
 (K22 Bool.false)))
 (fun K23 => br (Decidable.decide (y1.1 = 20))
 (K23 11)
 (K23 y19)))
 (fun K24 => jp (fun (y25 : Bool) => br y25
 (K24 y1.1)
 (K24 y18))
 (fun K26 => br (Decidable.decide (12 ≤ y1.1))
 (K26 (Decidable.decide (y1.1 ≤ 19)))
 (K26 Bool.false))))
 (fun K27 => br (Decidable.decide (y1.1 = 31))
 (K27 20)
 (K27 (-1))))
 (K3 (-1))))))))
 (some y1.2))
 ((0, [0, 0, 0, 0, 0, 0, 0, 0, 0, 0, 0, 0, 0, 0, 0, 0, 0, 0, 0, 0, 0, 0, 0, 0, 0, 0, 0, 0, 0, 0, 0, 0]))
theorem F51_eq (N : Nat) (x1 : Int) : g51' N x1 = F51 N x1 := by
  refine (e51 N x1).trans ?_
  rfl
def g37' (N : Nat) (x1 : Int) (x2 : Int) : Option (Int) := f37 N (x1, x2)
theorem e37 (N : Nat) (x1 : Int) (x2 : Int) : g37' N x1 x2 =
  bindS (g51' N x1) (fun (y0 : List Int) => fixN N (fun again1 (y2 : Int × Int) => br (Decidable.decide (y2.2 < 32))
 (jp (fun (y3 : Int) => again1 ((y3, IntKind.i64.wrap (y2.2 + 1))))
 (fun K4 => jp (fun (y5 : Bool) => br y5
 (chk (Decidable.decide (0 ≤ IntKind.u64.wrap y2.2)) (K4 (IntKind.u32.wrap (y2.1 + IntKind.u32.wrap (1 * 2 ^ Min.min (IntKind.u64.wrap y2.2).toNat IntKind.u32.bits)))))
 (K4 y2.1))
 (fun K6 => chk (Decidable.decide (0 ≤ y2.2) && Decidable.decide (y2.2 < (↑32 : Int))) (br (Decidable.decide (0 ≤ y0.getD y2.2.toNat 0))
 (chk (Decidable.decide (0 ≤ y2.2) && Decidable.decide (y2.2 < (↑32 : Int))) (chk (Decidable.decide (0 ≤ IntKind.u64.wrap (y0.getD y2.2.toNat 0))) (K6 (Decidable.decide
  (Go.bits Go.BinOp.and IntKind.u64
      ((IntKind.u64.wrap x2).fdiv
        (2 ^ Min.min (IntKind.u64.wrap (y0.getD y2.2.toNat 0)).toNat IntKind.u64.bits))
      1 =
    1)))))
 (K6 Bool.false)))))
 (some y2.1))
 ((0, 0))) := by kernel_rfl
def F37 (N : Nat) (x1 : Int) (x2 : Int) : Option (Int) :=
  bindS (F51 N x1) (fun (y0 : List Int) => fixN N (fun again1 (y2 : Int × Int) => br (Decidable.decide (y2.2 < 32))
 (jp (fun (y3 : Int) => again1 ((y3, IntKind.i64.wrap (y2.2 + 1))))
 (fun K4 => jp (fun (y5 : Bool) => br y5
 (chk (Decidable.decide (0 ≤ IntKind.u64.wrap y2.2)) (K4 (IntKind.u32.wrap (y2.1 + IntKind.u32.wrap (1 * 2 ^ Min.min (IntKind.u64.wrap y2.2).toNat IntKind.u32.bits)))))
 (K4 y2.1))
 (fun K6 => chk (Decidable.decide (0 ≤ y2.2) && Decidable.decide (y2.2 < (↑32 : Int))) (br (Decidable.decide (0 ≤ y0.getD y2.2.toNat 0))
 (chk (Decidable.decide (0 ≤ y2.2) && Decidable.decide (y2.2 < (↑32 : Int))) (chk (Decidable.decide (0 ≤ IntKind.u64.wrap (y0.getD y2.2.toNat 0))) (K6 (Decidable.decide
  (Go.bits Go.BinOp.and IntKind.u64
      ((IntKind.u64.wrap x2).fdiv
        (2 ^ Min.min (IntKind.u64.wrap (y0.getD y2.2.toNat 0)).toNat IntKind.u64.bits))
      1 =
    1)))))
 (K6 Bool.false)))))
 (some y2.1))
 ((0, 0)))
theorem F37_eq (N : Nat) (x1 : Int) (x2 : Int) : g37' N x1 x2 = F37 N x1 x2 := by
  refine (e37 N x1 x2).trans ?_
  simp only [F51_eq, F37]
def g38' (N : Nat) (x1 : Int) : Option (Int) := f38 N (x1)
theorem e38 (N : Nat) (x1 : Int) : g38' N x1 =
  jp (fun (y0 : Bool) => br y0
 (some 2)
 (jp (fun (y1 : Bool) => br y1
 (some 3)
 (chk (Decidable.decide (0 ≤ (IntKind.i64.wrap (x1 - 58)).tmod 9) &&
  Decidable.decide ((IntKind.i64.wrap (x1 - 58)).tmod 9 < (↑[1, 0, 4, 12, 8, 16, 20, 24, 28].length : Int))) (some ([1, 0, 4, 12, 8, 16, 20, 24, 28].getD ((IntKind.i64.wrap (x1 - 58)).tmod 9).toNat 0))))
 (fun K2 => br (Decidable.decide (x1 = 56))
 (K2 Bool.true)
 (K2 (Decidable.decide (x1 = 57))))))
 (fun K3 => br (Decidable.decide (x1 = 54))
 (K3 Bool.true)
 (K3 (Decidable.decide (x1 = 55)))) := by kernel_rfl
def F38 (N : Nat) (x1 : Int) : Option (Int) :=
  jp (fun (y0 : Bool) => br y0
 (some 2)
 (jp (fun (y1 : Bool) => br y1
 (some 3)
 (chk (Decidable.decide (0 ≤ (IntKind.i64.wrap (x1 - 58)).tmod 9) &&
  Decidable.decide ((IntKind.i64.wrap (x1 - 58)).tmod 9 < (↑[1, 0, 4, 12, 8, 16, 20, 24, 28].length : Int))) (some ([1, 0, 4, 12, 8, 16, 20, 24, 28].getD ((IntKind.i64.wrap (x1 - 58)).tmod 9).toNat 0))))
 (fun K2 => br (Decidable.decide (x1 = 56))
 (K2 Bool.true)
 (K2 (Decidable.decide (x1 = 57))))))
 (fun K3 => br (Decidable.decide (x1 = 54))
 (K3 Bool.true)
 (K3 (Decidable.decide (x1 = 55))))
theorem F38_eq (N : Nat) (x1 : Int) : g38' N x1 = F38 N x1 := by
  refine (e38 N x1).trans ?_
  rfl
def g11' (N : Nat) (x1 : (Int × (Int × (Int × (Int × (Int × (Bool × (Bool × (Int × Int))))))))) : Option (Int) := f11 N (x1)
theorem e11 (N : Nat) (x1 : (Int × (Int × (Int × (Int × (Int × (Bool × (Bool × (Int × Int))))))))) : g11' N x1 =
  bindS (g25' N x1.1) (fun (y0 : Int) => bindS (g34' N x1.1) (fun (y1 : Int) => bindS (g35' N x1.1) (fun (y2 : Int) => jp (fun (y3 : Int) => jp (fun (y4 : Int) => jp (fun (y5 : Int) => jp (fun (y6 : Int) => some y6)
 (fun K7 => br (Decidable.decide (10 ≤ y0))
 (bindS (g38' N x1.1) (fun (y8 : Int) => jp (fun (y9 : Int) => br x1.2.2.2.2.2.2.1
 (K7 (IntKind.u32.wrap (y9 + 33554432)))
 (K7 y9))
 (fun K10 => br x1.2.2.2.2.2.1
 (K10 (IntKind.u32.wrap (IntKind.u32.wrap (y5 + IntKind.u32.wrap (y8 * 134217728)) + 67108864)))
 (K10 (IntKind.u32.wrap (y5 + IntKind.u32.wrap (y8 * 134217728)))))))
 (br (Decidable.decide (x1.1 = 50))
 (K7 (IntKind.u32.wrap
  (IntKind.u32.wrap (y5 + IntKind.u32.wrap (IntKind.u32.wrap x1.2.2.2.2.2.2.2.1 * 16777216)) +
    IntKind.u32.wrap (IntKind.u32.wrap x1.2.2.2.2.2.2.2.2 * 1048576))))
 (br (Decidable.decide (x1.1 = 51))
 (some 2200961039)
 (br (Decidable.decide (x1.1 = 53))
 (K7 (IntKind.u32.wrap (y5 + 1048576)))
 (K7 y5))))))
 (fun K11 => bindS (g30' N x1.1) (fun (y12 : Int) => br (Decidable.decide (0 < y12))
 (bindS (g37' N y12 x1.2.2.2.2.1) (fun (y13 : Int) => K11 (IntKind.u32.wrap (y4 + y13))))
 (K11 y4))))
 (fun K14 => bindS (g29' N x1.1) (fun (y15 : Int) => br (Decidable.decide (0 < y15))
 (K14 (IntKind.u32.wrap (y3 + IntKind.u32.wrap (IntKind.u32.wrap x1.2.2.2.2.1 * 1048576))))
 (K14 y3))))
 (fun K16 => bindS (g36' N x1.1) (fun (y17 : Bool) => br y17
 (K16 (IntKind.u32.wrap
  (IntKind.u32.wrap
      (IntKind.u32.wrap
          (IntKind.u32.wrap
              (IntKind.u32.wrap (y1 + IntKind.u32.wrap (IntKind.u32.wrap x1.2.1 * 128)) +
                IntKind.u32.wrap (y2 * 4096)) +
            IntKind.u32.wrap (IntKind.u32.wrap x1.2.2.1 * 32768)) +
        IntKind.u32.wrap (IntKind.u32.wrap x1.2.2.2.1 * 1048576)) +
    1073741824)))
 (K16 (IntKind.u32.wrap
  (IntKind.u32.wrap
      (IntKind.u32.wrap
          (IntKind.u32.wrap (y1 + IntKind.u32.wrap (IntKind.u32.wrap x1.2.1 * 128)) +
            IntKind.u32.wrap (y2 * 4096)) +
        IntKind.u32.wrap (IntKind.u32.wrap x1.2.2.1 * 32768)) +
    IntKind.u32.wrap (IntKind.u32.wrap x1.2.2.2.1 * 1048576))))))))) := by kernel_rfl
def F11 (N : Nat) (x1 : (Int × (Int × (Int × (Int × (Int × (Bool × (Bool × (Int × Int))))))))) : Option (Int) :=
  bindS (F25 N x1.1) (fun (y0 : Int) => bindS (F34 N x1.1) (fun (y1 : Int) => bindS (F35 N x1.1) (fun (y2 : Int) => jp (fun (y3 : Int) => jp (fun (y4 : Int) => jp (fun (y5 : Int) => jp (fun (y6 : Int) => some y6)
 (fun K7 => br (Decidable.decide (10 ≤ y0))
 (bindS (F38 N x1.1) (fun (y8 : Int) => jp (fun (y9 : Int) => br x1.2.2.2.2.2.2.1
 (K7 (IntKind.u32.wrap (y9 + 33554432)))
 (K7 y9))
 (fun K10 => br x1.2.2.2.2.2.1
 (K10 (IntKind.u32.wrap (IntKind.u32.wrap (y5 + IntKind.u32.wrap (y8 * 134217728)) + 67108864)))
 (K10 (IntKind.u32.wrap (y5 + IntKind.u32.wrap (y8 * 134217728)))))))
 (br (Decidable.decide (x1.1 = 50))
 (K7 (IntKind.u32.wrap
  (IntKind.u32.wrap (y5 + IntKind.u32.wrap (IntKind.u32.wrap x1.2.2.2.2.2.2.2.1 * 16777216)) +
    IntKind.u32.wrap (IntKind.u32.wrap x1.2.2.2.2.2.2.2.2 * 1048576))))
 (br (Decidable.decide (x1.1 = 51))
 (some 2200961039)
 (br (Decidable.decide (x1.1 = 53))
 (K7 (IntKind.u32.wrap (y5 + 1048576)))
 (K7 y5))))))
 (fun K11 => bindS (F30 N x1.1) (fun (y12 : Int) => br (Decidable.decide (0 < y12))
 (bindS (F37 N y12 x1.2.2.2.2.1) (fun (y13 : Int) => K11 (IntKind.u32.wrap (y4 + y13))))
 (K11 y4))))
 (fun K14 => bindS (F29 N x1.1) (fun (y15 : Int) => br (Decidable.decide (0 < y15))
 (K14 (IntKind.u32.wrap (y3 + IntKind.u32.wrap (IntKind.u32.wrap x1.2.2.2.2.1 * 1048576))))
 (K14 y3))))
 (fun K16 => bindS (F36 N x1.1) (fun (y17 : Bool) => br y17
 (K16 (IntKind.u32.wrap
  (IntKind.u32.wrap
      (IntKind.u32.wrap
          (IntKind.u32.wrap
              (IntKind.u32.wrap (y1 + IntKind.u32.wrap (IntKind.u32.wrap x1.2.1 * 128)) +
                IntKind.u32.wrap (y2 * 4096)) +
            IntKind.u32.wrap (IntKind.u32.wrap x1.2.2.1 * 32768)) +
        IntKind.u32.wrap (IntKind.u32.wrap x1.2.2.2.1 * 1048576)) +
    1073741824)))
 (K16 (IntKind.u32.wrap
  (IntKind.u32.wrap
      (IntKind.u32.wrap
          (IntKind.u32.wrap (y1 + IntKind.u32.wrap (IntKind.u32.wrap x1.2.1 * 128)) +
            IntKind.u32.wrap (y2 * 4096)) +
        IntKind.u32.wrap (IntKind.u32.wrap x1.2.2.1 * 32768)) +
    IntKind.u32.wrap (IntKind.u32.wrap x1.2.2.2.1 * 1048576)))))))))
theorem F11_eq (N : Nat) (x1 : (Int × (Int × (Int × (Int × (Int × (Bool × (Bool × (Int × Int))))))))) : g11' N x1 = F11 N x1 := by
  refine (e11 N x1).trans ?_
  simp only [F25_eq, F29_eq, F30_eq, F34_eq, F35_eq, F36_eq, F37_eq, F38_eq, F11]
def g3' (N : Nat) (x1 : (Int × (Int × (Int × (Int × (Int × (Bool × (Bool × (Int × Int))))))))) : Option (Bool) := f3 N (x1)
theorem e3 (N : Nat) (x1 : (Int × (Int × (Int × (Int × (Int × (Bool × (Bool × (Int × Int))))))))) : g3' N x1 =
  bindS (g7' N ) (fun (y0 : Bool) => br (!y0)
 (some Bool.false)
 (bindS (g8' N x1) (fun (y1 : Int × Int) => bindS (g9' N x1) (fun (y2 : Bool) => bindS (g10' N x1) (fun (y3 : Bool) => br (!y3 == y2)
 (some Bool.false)
 (br (!y2)
 (jp (fun (y4 : Bool) => some y4)
 (fun K5 => bindS (g7' N ) (fun (y6 : Bool) => br y6
 (br (Decidable.decide (y1.1 = 0))
 (K5 (Decidable.decide (y1.2 = 1)))
 (K5 Bool.false))
 (K5 Bool.false))))
 (jp (fun (y7 : Bool) => some y7)
 (fun K8 => bindS (g7' N ) (fun (y9 : Bool) => br y9
 (br (Decidable.decide (y1.2 = 0))
 (bindS (g11' N x1) (fun (y10 : Int) => K8 (Decidable.decide (y1.1 = y10))))
 (K8 Bool.false))
 (K8 Bool.false)))))))))) := by kernel_rfl
def F3 (N : Nat) (x1 : (Int × (Int × (Int × (Int × (Int × (Bool × (Bool × (Int × Int))))))))) : Option (Bool) :=
  bindS (F7 N ) (fun (y0 : Bool) => br (!y0)
 (some Bool.false)
 (bindS (F8 N x1) (fun (y1 : Int × Int) => bindS (F9 N x1) (fun (y2 : Bool) => bindS (F10 N x1) (fun (y3 : Bool) => br (!y3 == y2)
 (some Bool.false)
 (br (!y2)
 (jp (fun (y4 : Bool) => some y4)
 (fun K5 => bindS (F7 N ) (fun (y6 : Bool) => br y6
 (br (Decidable.decide (y1.1 = 0))
 (K5 (Decidable.decide (y1.2 = 1)))
 (K5 Bool.false))
 (K5 Bool.false))))
 (jp (fun (y7 : Bool) => some y7)
 (fun K8 => bindS (F7 N ) (fun (y9 : Bool) => br y9
 (br (Decidable.decide (y1.2 = 0))
 (bindS (F11 N x1) (fun (y10 : Int) => K8 (Decidable.decide (y1.1 = y10))))
 (K8 Bool.false))
 (K8 Bool.false))))))))))
theorem F3_eq (N : Nat) (x1 : (Int × (Int × (Int × (Int × (Int × (Bool × (Bool × (Int × Int))))))))) : g3' N x1 = F3 N x1 := by
  refine (e3 N x1).trans ?_
  simp only [F10_eq, F11_eq, F7_eq, F8_eq, F9_eq, F3]
def g4' (N : Nat) (x1 : (Int × (Int × (Int × (Int × (Int × (Bool × (Bool × (Int × Int))))))))) (x2 : Int) : Option (Bool) := f4 N (x1, x2)
theorem e4 (N : Nat) (x1 : (Int × (Int × (Int × (Int × (Int × (Bool × (Bool × (Int × Int))))))))) (x2 : Int) : g4' N x1 x2 =
  bindS (g7' N ) (fun (y0 : Bool) => br (!y0)
 (some Bool.false)
 (bindS (g8' N x1) (fun (y1 : Int × Int) => jp (fun (y2 : PUnit) => bindS (g12' N x2) (fun (y3 : (Int × Int × Int × Int × Int × Bool × Bool × Int × Int) × Int) => br (!Decidable.decide (y3.2 = 0))
 (bindS (g7' N ) (fun (y4 : Bool) => some y4))
 (bindS (g8' N y3.1) (fun (y5 : Int × Int) => br (Decidable.decide (y3.1.1 = 50))
 (jp (fun (y6 : Bool) => some y6)
 (fun K7 => bindS (g7' N ) (fun (y8 : Bool) => br y8
 (br (Decidable.decide (y5.2 = 0))
 (K7 (Decidable.decide (y5.1 = Go.bits Go.BinOp.and IntKind.u32 x2 267415679)))
 (K7 Bool.false))
 (K7 Bool.false))))
 (br (Decidable.decide (y3.1.1 = 51))
 (jp (fun (y9 : Bool) => some y9)
 (fun K10 => bindS (g7' N ) (fun (y11 : Bool) => br y11
 (br (Decidable.decide (y5.2 = 0))
 (K10 (Decidable.decide (y5.1 = Go.bits Go.BinOp.and IntKind.u32 x2 4293947519)))
 (K10 Bool.false))
 (K10 Bool.false))))
 (jp (fun (y12 : Bool) => some y12)
 (fun K13 => bindS (g7' N ) (fun (y14 : Bool) => br y14
 (br (Decidable.decide (y5.2 = 0))
 (K13 (Decidable.decide (y5.1 = x2)))
 (K13 Bool.false))
 (K13 Bool.false)))))))))
 (fun K15 => br (Decidable.decide (y1.2 = 0))
 (bindS (g12' N y1.1) (fun (y16 : (Int × Int × Int × Int × Int × Bool × Bool × Int × Int) × Int) => jp (fun (y17 : Bool) => br y17
 (some Bool.false)
 (K15 ()))
 (fun K18 => br (!Decidable.decide (y16.2 = 0))
 (K18 Bool.true)
 (K18 (!((Ty.int IntKind.i64).pair
        ((Ty.int IntKind.i64).pair
          ((Ty.int IntKind.i64).pair
            ((Ty.int IntKind.i64).pair
              ((Ty.int IntKind.i64).pair
                (Ty.bool.pair
                  (Ty.bool.pair ((Ty.int IntKind.i64).pair (Ty.int IntKind.i64))))))))).eq
    y16.1 x1)))))
 (K15 ()))))) := by kernel_rfl
def F4 (N : Nat) (x1 : (Int × (Int × (Int × (Int × (Int × (Bool × (Bool × (Int × Int))))))))) (x2 : Int) : Option (Bool) :=
  bindS (F7 N ) (fun (y0 : Bool) => br (!y0)
 (some Bool.false)
 (bindS (F8 N x1) (fun (y1 : Int × Int) => jp (fun (y2 : PUnit) => bindS (F12 N x2) (fun (y3 : (Int × Int × Int × Int × Int × Bool × Bool × Int × Int) × Int) => br (!Decidable.decide (y3.2 = 0))
 (bindS (F7 N ) (fun (y4 : Bool) => some y4))
 (bindS (F8 N y3.1) (fun (y5 : Int × Int) => br (Decidable.decide (y3.1.1 = 50))
 (jp (fun (y6 : Bool) => some y6)
 (fun K7 => bindS (F7 N ) (fun (y8 : Bool) => br y8
 (br (Decidable.decide (y5.2 = 0))
 (K7 (Decidable.decide (y5.1 = Go.bits Go.BinOp.and IntKind.u32 x2 267415679)))
 (K7 Bool.false))
 (K7 Bool.false))))
 (br (Decidable.decide (y3.1.1 = 51))
 (jp (fun (y9 : Bool) => some y9)
 (fun K10 => bindS (F7 N ) (fun (y11 : Bool) => br y11
 (br (Decidable.decide (y5.2 = 0))
 (K10 (Decidable.decide (y5.1 = Go.bits Go.BinOp.and IntKind.u32 x2 4293947519)))
 (K10 Bool.false))
 (K10 Bool.false))))
 (jp (fun (y12 : Bool) => some y12)
 (fun K13 => bindS (F7 N ) (fun (y14 : Bool) => br y14
 (br (Decidable.decide (y5.2 = 0))
 (K13 (Decidable.decide (y5.1 = x2)))
 (K13 Bool.false))
 (K13 Bool.false)))))))))
 (fun K15 => br (Decidable.decide (y1.2 = 0))
 (bindS (F12 N y1.1) (fun (y16 : (Int × Int × Int × Int × Int × Bool × Bool × Int × Int) × Int) => jp (fun (y17 : Bool) => br y17
 (some Bool.false)
 (K15 ()))
 (fun K18 => br (!Decidable.decide (y16.2 = 0))
 (K18 Bool.true)
 (K18 (!((Ty.int IntKind.i64).pair
        ((Ty.int IntKind.i64).pair
          ((Ty.int IntKind.i64).pair
            ((Ty.int IntKind.i64).pair
              ((Ty.int IntKind.i64).pair
                (Ty.bool.pair
                  (Ty.bool.pair ((Ty.int IntKind.i64).pair (Ty.int IntKind.i64))))))))).eq
    y16.1 x1)))))
 (K15 ())))))
theorem F4_eq (N : Nat) (x1 : (Int × (Int × (Int × (Int × (Int × (Bool × (Bool × (Int × Int))))))))) (x2 : Int) : g4' N x1 x2 = F4 N x1 x2 := by
  refine (e4 N x1 x2).trans ?_
  simp only [F12_eq, F7_eq, F8_eq, F4]
def g5' (N : Nat) (x1 : (Int × (Int × (Int × (Int × (Int × (Bool × (Bool × (Int × Int))))))))) (x2 : (Int × (Int × (Int × (Int × (Int × (Bool × (Bool × (Int × Int))))))))) : Option (Bool) := f5 N (x1, x2)
theorem e5 (N : Nat) (x1 : (Int × (Int × (Int × (Int × (Int × (Bool × (Bool × (Int × Int))))))))) (x2 : (Int × (Int × (Int × (Int × (Int × (Bool × (Bool × (Int × Int))))))))) : g5' N x1 x2 =
  bindS (g7' N ) (fun (y0 : Bool) => br (!y0)
 (some Bool.false)
 (bindS (g8' N x1) (fun (y1 : Int × Int) => bindS (g8' N x2) (fun (y2 : Int × Int) => jp (fun (y3 : Bool) => some y3)
 (fun K4 => bindS (g7' N ) (fun (y5 : Bool) => br y5
 (br (!Decidable.decide (y1.2 = 0))
 (K4 Bool.true)
 (br (!Decidable.decide (y2.2 = 0))
 (K4 Bool.true)
 (K4 (Decidable.decide (y1.1 = y2.1) ==
  ((Ty.int IntKind.i64).pair
        ((Ty.int IntKind.i64).pair
          ((Ty.int IntKind.i64).pair
            ((Ty.int IntKind.i64).pair
              ((Ty.int IntKind.i64).pair
                (Ty.bool.pair
                  (Ty.bool.pair ((Ty.int IntKind.i64).pair (Ty.int IntKind.i64))))))))).eq
    x1 x2))))
 (K4 Bool.false))))))) := by kernel_rfl
def F5 (N : Nat) (x1 : (Int × (Int × (Int × (Int × (Int × (Bool × (Bool × (Int × Int))))))))) (x2 : (Int × (Int × (Int × (Int × (Int × (Bool × (Bool × (Int × Int))))))))) : Option (Bool) :=
  bindS (F7 N ) (fun (y0 : Bool) => br (!y0)
 (some Bool.false)
 (bindS (F8 N x1) (fun (y1 : Int × Int) => bindS (F8 N x2) (fun (y2 : Int × Int) => jp (fun (y3 : Bool) => some y3)
 (fun K4 => bindS (F7 N ) (fun (y5 : Bool) => br y5
 (br (!Decidable.decide (y1.2 = 0))
 (K4 Bool.true)
 (br (!Decidable.decide (y2.2 = 0))
 (K4 Bool.true)
 (K4 (Decidable.decide (y1.1 = y2.1) ==
  ((Ty.int IntKind.i64).pair
        ((Ty.int IntKind.i64).pair
          ((Ty.int IntKind.i64).pair
            ((Ty.int IntKind.i64).pair
              ((Ty.int IntKind.i64).pair
                (Ty.bool.pair
                  (Ty.bool.pair ((Ty.int IntKind.i64).pair (Ty.int IntKind.i64))))))))).eq
    x1 x2))))
 (K4 Bool.false)))))))
theorem F5_eq (N : Nat) (x1 : (Int × (Int × (Int × (Int × (Int × (Bool × (Bool × (Int × Int))))))))) (x2 : (Int × (Int × (Int × (Int × (Int × (Bool × (Bool × (Int × Int))))))))) : g5' N x1 x2 = F5 N x1 x2 := by
  refine (e5 N x1 x2).trans ?_
  simp only [F7_eq, F8_eq, F5]
def g41' (N : Nat) (x1 : Int) (x2 : Int) : Option (List Int) := f41 N (x1, x2)
theorem e41 (N : Nat) (x1 : Int) (x2 : Int) : g41' N x1 x2 =
  fixN N (fun again0 (y1 : Int × Int × List Int) => br (Decidable.decide (y1.2.1 < if 8 < x2 then 8 else x2))
 (chk (Decidable.decide ((y1.2.2.length + [IntKind.u8.wrap y1.1].length) * 1 ≤ lim)) (again0 ((y1.1.fdiv (2 ^ Min.min 8 IntKind.u64.bits), (IntKind.i64.wrap (y1.2.1 + 1), y1.2.2 ++ [IntKind.u8.wrap y1.1])))))
 (some y1.2.2))
 ((x1, (0, []))) := by kernel_rfl
def F41 (N : Nat) (x1 : Int) (x2 : Int) : Option (List Int) :=
  fixN N (fun again0 (y1 : Int × Int × List Int) => br (Decidable.decide (y1.2.1 < if 8 < x2 then 8 else x2))
 (chk (Decidable.decide ((y1.2.2.length + [IntKind.u8.wrap y1.1].length) * 1 ≤ lim)) (again0 ((y1.1.fdiv (2 ^ Min.min 8 IntKind.u64.bits), (IntKind.i64.wrap (y1.2.1 + 1), y1.2.2 ++ [IntKind.u8.wrap y1.1])))))
 (some y1.2.2))
 ((x1, (0, [])))
theorem F41_eq (N : Nat) (x1 : Int) (x2 : Int) : g41' N x1 x2 = F41 N x1 x2 := by
  refine (e41 N x1 x2).trans ?_
  rfl
def g13' (N : Nat) (x1 : List (Int × (Int × (Int × (Int × (Int × (Bool × (Bool × (Int × Int))))))))) : Option (Int × List Int) := f13 N (x1)
theorem e13 (N : Nat) (x1 : List (Int × (Int × (Int × (Int × (Int × (Bool × (Bool × (Int × Int))))))))) : g13' N x1 =
  jp (fun (y0 : Int × List Int) => some ((y0.1, y0.2)))
 (fun K1 => fixN N (fun again2 (y3 : Int × Int × List Int) => br (Decidable.decide (y3.2.1 < (↑x1.length : Int)))
 (chk (Decidable.decide (0 ≤ y3.2.1) && Decidable.decide (y3.2.1 < (↑x1.length : Int))) (bindS (g8' N ((x1.getD y3.2.1.toNat (0, 0, 0, 0, 0, Bool.false, Bool.false, 0, 0)))) (fun (y4 : Int × Int) => br (!Decidable.decide (y4.2 = 0))
 (K1 ((y4.2, [])))
 (bindS (g41' N (IntKind.u64.wrap y4.1) 4) (fun (y5 : List Int) => chk (Decidable.decide ((y3.2.2.length + y5.length) * 1 ≤ lim)) (again2 ((y3.1, (IntKind.i64.wrap (y3.2.1 + 1), y3.2.2 ++ y5)))))))))
 (K1 ((y3.1, y3.2.2))))
 ((0, (0, [])))) := by kernel_rfl
def F13 (N : Nat) (x1 : List (Int × (Int × (Int × (Int × (Int × (Bool × (Bool × (Int × Int))))))))) : Option (Int × List Int) :=
  jp (fun (y0 : Int × List Int) => some ((y0.1, y0.2)))
 (fun K1 => fixN N (fun again2 (y3 : Int × Int × List Int) => br (Decidable.decide (y3.2.1 < (↑x1.length : Int)))
 (chk (Decidable.decide (0 ≤ y3.2.1) && Decidable.decide (y3.2.1 < (↑x1.length : Int))) (bindS (F8 N ((x1.getD y3.2.1.toNat (0, 0, 0, 0, 0, Bool.false, Bool.false, 0, 0)))) (fun (y4 : Int × Int) => br (!Decidable.decide (y4.2 = 0))
 (K1 ((y4.2, [])))
 (bindS (F41 N (IntKind.u64.wrap y4.1) 4) (fun (y5 : List Int) => chk (Decidable.decide ((y3.2.2.length + y5.length) * 1 ≤ lim)) (again2 ((y3.1, (IntKind.i64.wrap (y3.2.1 + 1), y3.2.2 ++ y5)))))))))
 (K1 ((y3.1, y3.2.2))))
 ((0, (0, []))))
theorem F13_eq (N : Nat) (x1 : List (Int × (Int × (Int × (Int × (Int × (Bool × (Bool × (Int × Int))))))))) : g13' N x1 = F13 N x1 := by
  refine (e13 N x1).trans ?_
  simp only [F41_eq, F8_eq, F13]
def g14' (N : Nat) (x1 : Int) (x2 : Int) : Option (List Int) := f14 N (x1, x2)
theorem e14 (N : Nat) (x1 : Int) (x2 : Int) : g14' N x1 x2 =
  fixN N (fun again0 (y1 : Int × Int × List Int) => jp (fun (y2 : Bool) => br y2
 (chk (Decidable.decide ((y1.2.2.length + [IntKind.u8.wrap (y1.1.tmod 256)].length) * 1 ≤ lim)) (again0 ((IntKind.u64.wrap (y1.1.tdiv 256), (IntKind.i64.wrap (y1.2.1 + 1), y1.2.2 ++ [IntKind.u8.wrap (y1.1.tmod 256)])))))
 (some y1.2.2))
 (fun K3 => br (Decidable.decide (y1.2.1 < x2))
 (K3 (Decidable.decide (y1.2.1 < 8)))
 (K3 Bool.false)))
 ((x1, (0, []))) := by kernel_rfl
def F14 (N : Nat) (x1 : Int) (x2 : Int) : Option (List Int) :=
  fixN N (fun again0 (y1 : Int × Int × List Int) => jp (fun (y2 : Bool) => br y2
 (chk (Decidable.decide ((y1.2.2.length + [IntKind.u8.wrap (y1.1.tmod 256)].length) * 1 ≤ lim)) (again0 ((IntKind.u64.wrap (y1.1.tdiv 256), (IntKind.i64.wrap (y1.2.1 + 1), y1.2.2 ++ [IntKind.u8.wrap (y1.1.tmod 256)])))))
 (some y1.2.2))
 (fun K3 => br (Decidable.decide (y1.2.1 < x2))
 (K3 (Decidable.decide (y1.2.1 < 8)))
 (K3 Bool.false)))
 ((x1, (0, [])))
theorem F14_eq (N : Nat) (x1 : Int) (x2 : Int) : g14' N x1 x2 = F14 N x1 x2 := by
  refine (e14 N x1 x2).trans ?_
  rfl
def g62' (N : Nat) (x1 : Int) (x2 : Int) : Option (Bool) := f62 N (x1, x2)
theorem e62 (N : Nat) (x1 : Int) (x2 : Int) : g62' N x1 x2 =
  bindS (g25' N x2) (fun (y0 : Int) => bindS (g34' N x2) (fun (y1 : Int) => br (!Decidable.decide (x1.tmod 128 = y1))
 (some Bool.false)
 (jp (fun (y2 : Bool) => br y2
 (some Bool.true)
 (br (Decidable.decide (y0 = 9))
 (jp (fun (y3 : Bool) => some y3)
 (fun K4 => br (Decidable.decide (x1 = 115))
 (br (Decidable.decide (x2 = 52))
 (K4 Bool.true)
 (br (Decidable.decide (x1 = 1048691))
 (K4 (Decidable.decide (x2 = 53)))
 (K4 Bool.false)))
 (br (Decidable.decide (x1 = 1048691))
 (K4 (Decidable.decide (x2 = 53)))
 (K4 Bool.false))))
 (br (Decidable.decide (y0 = 8))
 (jp (fun (y5 : Bool) => some y5)
 (fun K6 => br (Decidable.decide ((x1.fdiv (2 ^ Min.min 12 IntKind.u32.bits)).tmod 8 = 0))
 (K6 (Decidable.decide (x1.fdiv (2 ^ Min.min 20 IntKind.u32.bits) = 2099) == Decidable.decide (x2 = 51)))
 (K6 Bool.false)))
 (bindS (g35' N x2) (fun (y7 : Int) => br (!Decidable.decide ((x1.fdiv (2 ^ Min.min 12 IntKind.u32.bits)).tmod 8 = y7))
 (some Bool.false)
 (jp (fun (y8 : Int) => jp (fun (y9 : Bool) => br y9
 (some (Decidable.decide (x1.fdiv (2 ^ Min.min 25 IntKind.u32.bits) = y8)))
 (bindS (g29' N x2) (fun (y10 : Int) => br (Decidable.decide (y10 = 6))
 (some (Decidable.decide
  (IntKind.u32.wrap ((x1.fdiv (2 ^ Min.min 25 IntKind.u32.bits)).tdiv 2) = IntKind.u32.wrap (y8.tdiv 2))))
 (br (Decidable.decide (y0 = 10))
 (jp (fun (y11 : Bool) => some y11)
 (fun K12 => br (Decidable.decide (x1.fdiv (2 ^ Min.min 27 IntKind.u32.bits) = 2))
 (K12 (Decidable.decide ((x1.fdiv (2 ^ Min.min 20 IntKind.u32.bits)).tmod 32 = 0)))
 (K12 Bool.false)))
 (br (Decidable.decide (10 < y0))
 (bindS (g38' N x2) (fun (y13 : Int) => some (Decidable.decide (x1.fdiv (2 ^ Min.min 27 IntKind.u32.bits) = y13))))
 (some Bool.true))))))
 (fun K14 => br (Decidable.decide (y0 = 7))
 (K14 Bool.true)
 (bindS (g29' N x2) (fun (y15 : Int) => K14 (Decidable.decide (y15 = 5))))))
 (fun K16 => bindS (g36' N x2) (fun (y17 : Bool) => br y17
 (K16 32)
 (K16 0)))))))))
 (fun K18 => br (Decidable.decide (y0 = 1))
 (K18 Bool.true)
 (K18 (Decidable.decide (x2 = 3))))))) := by kernel_rfl
def F62 (N : Nat) (x1 : Int) (x2 : Int) : Option (Bool) :=
  bindS (F25 N x2) (fun (y0 : Int) => bindS (F34 N x2) (fun (y1 : Int) => br (!Decidable.decide (x1.tmod 128 = y1))
 (some Bool.false)
 (jp (fun (y2 : Bool) => br y2
 (some Bool.true)
 (br (Decidable.decide (y0 = 9))
 (jp (fun (y3 : Bool) => some y3)
 (fun K4 => br (Decidable.decide (x1 = 115))
 (br (Decidable.decide (x2 = 52))
 (K4 Bool.true)
 (br (Decidable.decide (x1 = 1048691))
 (K4 (Decidable.decide (x2 = 53)))
 (K4 Bool.false)))
 (br (Decidable.decide (x1 = 1048691))
 (K4 (Decidable.decide (x2 = 53)))
 (K4 Bool.false))))
 (br (Decidable.decide (y0 = 8))
 (jp (fun (y5 : Bool) => some y5)
 (fun K6 => br (Decidable.decide ((x1.fdiv (2 ^ Min.min 12 IntKind.u32.bits)).tmod 8 = 0))
 (K6 (Decidable.decide (x1.fdiv (2 ^ Min.min 20 IntKind.u32.bits) = 2099) == Decidable.decide (x2 = 51)))
 (K6 Bool.false)))
 (bindS (F35 N x2) (fun (y7 : Int) => br (!Decidable.decide ((x1.fdiv (2 ^ Min.min 12 IntKind.u32.bits)).tmod 8 = y7))
 (some Bool.false)
 (jp (fun (y8 : Int) => jp (fun (y9 : Bool) => br y9
 (some (Decidable.decide (x1.fdiv (2 ^ Min.min 25 IntKind.u32.bits) = y8)))
 (bindS (F29 N x2) (fun (y10 : Int) => br (Decidable.decide (y10 = 6))
 (some (Decidable.decide
  (IntKind.u32.wrap ((x1.fdiv (2 ^ Min.min 25 IntKind.u32.bits)).tdiv 2) = IntKind.u32.wrap (y8.tdiv 2))))
 (br (Decidable.decide (y0 = 10))
 (jp (fun (y11 : Bool) => some y11)
 (fun K12 => br (Decidable.decide (x1.fdiv (2 ^ Min.min 27 IntKind.u32.bits) = 2))
 (K12 (Decidable.decide ((x1.fdiv (2 ^ Min.min 20 IntKind.u32.bits)).tmod 32 = 0)))
 (K12 Bool.false)))
 (br (Decidable.decide (10 < y0))
 (bindS (F38 N x2) (fun (y13 : Int) => some (Decidable.decide (x1.fdiv (2 ^ Min.min 27 IntKind.u32.bits) = y13))))
 (some Bool.true))))))
 (fun K14 => br (Decidable.decide (y0 = 7))
 (K14 Bool.true)
 (bindS (F29 N x2) (fun (y15 : Int) => K14 (Decidable.decide (y15 = 5))))))
 (fun K16 => bindS (F36 N x2) (fun (y17 : Bool) => br y17
 (K16 32)
 (K16 0)))))))))
 (fun K18 => br (Decidable.decide (y0 = 1))
 (K18 Bool.true)
 (K18 (Decidable.decide (x2 = 3)))))))
theorem F62_eq (N : Nat) (x1 : Int) (x2 : Int) : g62' N x1 x2 = F62 N x1 x2 := by
  refine (e62 N x1 x2).trans ?_
  simp only [F25_eq, F29_eq, F34_eq, F35_eq, F36_eq, F38_eq, F62]
def g63' (N : Nat) (x1 : Int) (x2 : Int) : Option (Int) := f63 N (x1, x2)
theorem e63 (N : Nat) (x1 : Int) (x2 : Int) : g63' N x1 x2 =
  bindS (g51' N x1) (fun (y0 : List Int) => fixN N (fun again1 (y2 : Int × Int) => br (Decidable.decide (y2.2 < 32))
 (jp (fun (y3 : Int) => again1 ((y3, IntKind.i64.wrap (y2.2 + 1))))
 (fun K4 => jp (fun (y5 : Bool) => br y5
 (K4 y2.1)
 (br (Decidable.decide (y2.2 = 31))
 (chk (Decidable.decide (0 ≤ y2.2) && Decidable.decide (y2.2 < (↑32 : Int))) (chk (Decidable.decide (0 ≤ IntKind.u64.wrap (y0.getD y2.2.toNat 0))) (K4 (IntKind.i64.wrap
  (y2.1 - IntKind.i64.wrap (1 * 2 ^ Min.min (IntKind.u64.wrap (y0.getD y2.2.toNat 0)).toNat IntKind.i64.bits))))))
 (chk (Decidable.decide (0 ≤ y2.2) && Decidable.decide (y2.2 < (↑32 : Int))) (chk (Decidable.decide (0 ≤ IntKind.u64.wrap (y0.getD y2.2.toNat 0))) (K4 (IntKind.i64.wrap
  (y2.1 + IntKind.i64.wrap (1 * 2 ^ Min.min (IntKind.u64.wrap (y0.getD y2.2.toNat 0)).toNat IntKind.i64.bits))))))))
 (fun K6 => chk (Decidable.decide (0 ≤ y2.2) && Decidable.decide (y2.2 < (↑32 : Int))) (br (Decidable.decide (y0.getD y2.2.toNat 0 < 0))
 (K6 Bool.true)
 (chk (Decidable.decide (0 ≤ IntKind.u64.wrap y2.2)) (K6 (Decidable.decide
  (Go.bits Go.BinOp.and IntKind.u32 (x2.fdiv (2 ^ Min.min (IntKind.u64.wrap y2.2).toNat IntKind.u32.bits)) 1 =
    0))))))))
 (some y2.1))
 ((0, 0))) := by kernel_rfl
def F63 (N : Nat) (x1 : Int) (x2 : Int) : Option (Int) :=
  bindS (F51 N x1) (fun (y0 : List Int) => fixN N (fun again1 (y2 : Int × Int) => br (Decidable.decide (y2.2 < 32))
 (jp (fun (y3 : Int) => again1 ((y3, IntKind.i64.wrap (y2.2 + 1))))
 (fun K4 => jp (fun (y5 : Bool) => br y5
 (K4 y2.1)
 (br (Decidable.decide (y2.2 = 31))
 (chk (Decidable.decide (0 ≤ y2.2) && Decidable.decide (y2.2 < (↑32 : Int))) (chk (Decidable.decide (0 ≤ IntKind.u64.wrap (y0.getD y2.2.toNat 0))) (K4 (IntKind.i64.wrap
  (y2.1 - IntKind.i64.wrap (1 * 2 ^ Min.min (IntKind.u64.wrap (y0.getD y2.2.toNat 0)).toNat IntKind.i64.bits))))))
 (chk (Decidable.decide (0 ≤ y2.2) && Decidable.decide (y2.2 < (↑32 : Int))) (chk (Decidable.decide (0 ≤ IntKind.u64.wrap (y0.getD y2.2.toNat 0))) (K4 (IntKind.i64.wrap
  (y2.1 + IntKind.i64.wrap (1 * 2 ^ Min.min (IntKind.u64.wrap (y0.getD y2.2.toNat 0)).toNat IntKind.i64.bits))))))))
 (fun K6 => chk (Decidable.decide (0 ≤ y2.2) && Decidable.decide (y2.2 < (↑32 : Int))) (br (Decidable.decide (y0.getD y2.2.toNat 0 < 0))
 (K6 Bool.true)
 (chk (Decidable.decide (0 ≤ IntKind.u64.wrap y2.2)) (K6 (Decidable.decide
  (Go.bits Go.BinOp.and IntKind.u32 (x2.fdiv (2 ^ Min.min (IntKind.u64.wrap y2.2).toNat IntKind.u32.bits)) 1 =
    0))))))))
 (some y2.1))
 ((0, 0)))
theorem F63_eq (N : Nat) (x1 : Int) (x2 : Int) : g63' N x1 x2 = F63 N x1 x2 := by
  refine (e63 N x1 x2).trans ?_
  simp only [F51_eq, F63]
def g43' (N : Nat) (x1 : Int) : Option ((Int × (Int × (Int × (Int × (Int × (Bool × (Bool × (Int × Int)))))))) × Bool) := f43 N (x1)
theorem e43 (N : Nat) (x1 : Int) : g43' N x1 =
  fixN N (fun again0 (y1 : Int) => br (Decidable.decide (y1 ≤ 75))
 (bindS (g62' N x1 y1) (fun (y2 : Bool) => br (!y2)
 (again0 (IntKind.i64.wrap (y1 + 1)))
 (jp (fun (y3 : Int × Int × Int × Int × Int × Bool × Bool × Int × Int) => jp (fun (y4 : Int × Int × Int × Int × Int × Bool × Bool × Int × Int) => jp (fun (y5 : Int × Int × Int × Int × Int × Bool × Bool × Int × Int) => jp (fun (y6 : Int × Int × Int × Int × Int × Bool × Bool × Int × Int) => jp (fun (y7 : Int × Int × Int × Int × Int × Bool × Bool × Int × Int) => jp (fun (y8 : Int × Int × Int × Int × Int × Bool × Bool × Int × Int) => jp (fun (y9 : Int × Int × Int × Int × Int × Bool × Bool × Int × Int) => jp (fun (y10 : Int × Int × Int × Int × Int × Bool × Bool × Int × Int) => jp (fun (y11 : Int × Int × Int × Int × Int × Bool × Bool × Int × Int) => some ((y11, Bool.true)))
 (fun K12 => br (Decidable.decide (y1 = 51))
 (K12 ((y10.1, (y10.2.1, (y10.2.2.1, (y10.2.2.2.1, (y10.2.2.2.2.1, (y10.2.2.2.2.2.1, (y10.2.2.2.2.2.2.1, (3, 3))))))))))
 (K12 y10)))
 (fun K13 => br (Decidable.decide (y1 = 50))
 (K13 ((y9.1, (y9.2.1, (y9.2.2.1, (y9.2.2.2.1, (y9.2.2.2.2.1, (y9.2.2.2.2.2.1, (y9.2.2.2.2.2.2.1, (IntKind.i64.wrap ((x1.fdiv (2 ^ Min.min 24 IntKind.u32.bits)).tmod 16), IntKind.i64.wrap ((x1.fdiv (2 ^ Min.min 20 IntKind.u32.bits)).tmod 16)))))))))))
 (K13 y9)))
 (fun K14 => bindS (g25' N y1) (fun (y15 : Int) => br (Decidable.decide (10 ≤ y15))
 (K14 ((y8.1, (y8.2.1, (y8.2.2.1, (y8.2.2.2.1, (y8.2.2.2.2.1, (Decidable.decide ((x1.fdiv (2 ^ Min.min 26 IntKind.u32.bits)).tmod 2 = 1), (Decidable.decide ((x1.fdiv (2 ^ Min.min 25 IntKind.u32.bits)).tmod 2 = 1), y8.2.2.2.2.2.2.2)))))))))
 (K14 y8))))
 (fun K16 => bindS (g29' N y1) (fun (y17 : Int) => br (Decidable.decide (y17 = 5))
 (K16 ((y7.1, (y7.2.1, (y7.2.2.1, (y7.2.2.2.1, (IntKind.i64.wrap ((x1.fdiv (2 ^ Min.min 20 IntKind.u32.bits)).tmod 32), y7.2.2.2.2.2)))))))
 (K16 y7))))
 (fun K18 => bindS (g29' N y1) (fun (y19 : Int) => br (Decidable.decide (y19 = 6))
 (K18 ((y6.1, (y6.2.1, (y6.2.2.1, (y6.2.2.2.1, (IntKind.i64.wrap ((x1.fdiv (2 ^ Min.min 20 IntKind.u32.bits)).tmod 64), y6.2.2.2.2.2)))))))
 (K18 y6))))
 (fun K20 => bindS (g30' N y1) (fun (y21 : Int) => br (Decidable.decide (0 < y21))
 (bindS (g30' N y1) (fun (y22 : Int) => bindS (g63' N y22 x1) (fun (y23 : Int) => K20 ((y5.1, (y5.2.1, (y5.2.2.1, (y5.2.2.2.1, (y23, y5.2.2.2.2.2)))))))))
 (K20 y5))))
 (fun K24 => bindS (g28' N y1) (fun (y25 : Bool) => br y25
 (K24 ((y4.1, (y4.2.1, (y4.2.2.1, (IntKind.i64.wrap ((x1.fdiv (2 ^ Min.min 20 IntKind.u32.bits)).tmod 32), y4.2.2.2.2))))))
 (K24 y4))))
 (fun K26 => bindS (g27' N y1) (fun (y27 : Bool) => br y27
 (K26 ((y3.1, (y3.2.1, (IntKind.i64.wrap ((x1.fdiv (2 ^ Min.min 15 IntKind.u32.bits)).tmod 32), y3.2.2.2)))))
 (K26 y3))))
 (fun K28 => bindS (g26' N y1) (fun (y29 : Bool) => br y29
 (K28 ((y1, (IntKind.i64.wrap ((x1.fdiv (2 ^ Min.min 7 IntKind.u32.bits)).tmod 32), (0, (0, (0, (Bool.false, (Bool.false, (0, 0))))))))))
 (K28 ((y1, (0, (0, (0, (0, (Bool.false, (Bool.false, (0, 0)))))))))))))))
 (some (((0, (0, (0, (0, (0, (Bool.false, (Bool.false, (0, 0)))))))), Bool.false))))
 1 := by kernel_rfl
def F43 (N : Nat) (x1 : Int) : Option ((Int × (Int × (Int × (Int × (Int × (Bool × (Bool × (Int × Int)))))))) × Bool) :=
  fixN N (fun again0 (y1 : Int) => br (Decidable.decide (y1 ≤ 75))
 (bindS (F62 N x1 y1) (fun (y2 : Bool) => br (!y2)
 (again0 (IntKind.i64.wrap (y1 + 1)))
 (jp (fun (y3 : Int × Int × Int × Int × Int × Bool × Bool × Int × Int) => jp (fun (y4 : Int × Int × Int × Int × Int × Bool × Bool × Int × Int) => jp (fun (y5 : Int × Int × Int × Int × Int × Bool × Bool × Int × Int) => jp (fun (y6 : Int × Int × Int × Int × Int × Bool × Bool × Int × Int) => jp (fun (y7 : Int × Int × Int × Int × Int × Bool × Bool × Int × Int) => jp (fun (y8 : Int × Int × Int × Int × Int × Bool × Bool × Int × Int) => jp (fun (y9 : Int × Int × Int × Int × Int × Bool × Bool × Int × Int) => jp (fun (y10 : Int × Int × Int × Int × Int × Bool × Bool × Int × Int) => jp (fun (y11 : Int × Int × Int × Int × Int × Bool × Bool × Int × Int) => some ((y11, Bool.true)))
 (fun K12 => br (Decidable.decide (y1 = 51))
 (K12 ((y10.1, (y10.2.1, (y10.2.2.1, (y10.2.2.2.1, (y10.2.2.2.2.1, (y10.2.2.2.2.2.1, (y10.2.2.2.2.2.2.1, (3, 3))))))))))
 (K12 y10)))
 (fun K13 => br (Decidable.decide (y1 = 50))
 (K13 ((y9.1, (y9.2.1, (y9.2.2.1, (y9.2.2.2.1, (y9.2.2.2.2.1, (y9.2.2.2.2.2.1, (y9.2.2.2.2.2.2.1, (IntKind.i64.wrap ((x1.fdiv (2 ^ Min.min 24 IntKind.u32.bits)).tmod 16), IntKind.i64.wrap ((x1.fdiv (2 ^ Min.min 20 IntKind.u32.bits)).tmod 16)))))))))))
 (K13 y9)))
 (fun K14 => bindS (F25 N y1) (fun (y15 : Int) => br (Decidable.decide (10 ≤ y15))
 (K14 ((y8.1, (y8.2.1, (y8.2.2.1, (y8.2.2.2.1, (y8.2.2.2.2.1, (Decidable.decide ((x1.fdiv (2 ^ Min.min 26 IntKind.u32.bits)).tmod 2 = 1), (Decidable.decide ((x1.fdiv (2 ^ Min.min 25 IntKind.u32.bits)).tmod 2 = 1), y8.2.2.2.2.2.2.2)))))))))
 (K14 y8))))
 (fun K16 => bindS (F29 N y1) (fun (y17 : Int) => br (Decidable.decide (y17 = 5))
 (K16 ((y7.1, (y7.2.1, (y7.2.2.1, (y7.2.2.2.1, (IntKind.i64.wrap ((x1.fdiv (2 ^ Min.min 20 IntKind.u32.bits)).tmod 32), y7.2.2.2.2.2)))))))
 (K16 y7))))
 (fun K18 => bindS (F29 N y1) (fun (y19 : Int) => br (Decidable.decide (y19 = 6))
 (K18 ((y6.1, (y6.2.1, (y6.2.2.1, (y6.2.2.2.1, (IntKind.i64.wrap ((x1.fdiv (2 ^ Min.min 20 IntKind.u32.bits)).tmod 64), y6.2.2.2.2.2)))))))
 (K18 y6))))
 (fun K20 => bindS (F30 N y1) (fun (y21 : Int) => br (Decidable.decide (0 < y21))
 (bindS (F30 N y1) (fun (y22 : Int) => bindS (F63 N y22 x1) (fun (y23 : Int) => K20 ((y5.1, (y5.2.1, (y5.2.2.1, (y5.2.2.2.1, (y23, y5.2.2.2.2.2)))))))))
 (K20 y5))))
 (fun K24 => bindS (F28 N y1) (fun (y25 : Bool) => br y25
 (K24 ((y4.1, (y4.2.1, (y4.2.2.1, (IntKind.i64.wrap ((x1.fdiv (2 ^ Min.min 20 IntKind.u32.bits)).tmod 32), y4.2.2.2.2))))))
 (K24 y4))))
 (fun K26 => bindS (F27 N y1) (fun (y27 : Bool) => br y27
 (K26 ((y3.1, (y3.2.1, (IntKind.i64.wrap ((x1.fdiv (2 ^ Min.min 15 IntKind.u32.bits)).tmod 32), y3.2.2.2)))))
 (K26 y3))))
 (fun K28 => bindS (F26 N y1) (fun (y29 : Bool) => br y29
 (K28 ((y1, (IntKind.i64.wrap ((x1.fdiv (2 ^ Min.min 7 IntKind.u32.bits)).tmod 32), (0, (0, (0, (Bool.false, (Bool.false, (0, 0))))))))))
 (K28 ((y1, (0, (0, (0, (0, (Bool.false, (Bool.false, (0, 0)))))))))))))))
 (some (((0, (0, (0, (0, (0, (Bool.false, (Bool.false, (0, 0)))))))), Bool.false))))
 1
theorem F43_eq (N : Nat) (x1 : Int) : g43' N x1 = F43 N x1 := by
  refine (e43 N x1).trans ?_
  simp only [F25_eq, F26_eq, F27_eq, F28_eq, F29_eq, F30_eq, F62_eq, F63_eq, F43]
def g17' (N : Nat) (x1 : List Int) : Option (List (Int × (Int × (Int × (Int × (Int × (Bool × (Bool × (Int × Int))))))))) := f17 N (x1)
theorem e17 (N : Nat) (x1 : List Int) : g17' N x1 =
  fixN N (fun again0 (y1 : Int × List (Int × Int × Int × Int × Int × Bool × Bool × Int × Int)) => br (Decidable.decide (IntKind.i64.wrap (y1.1 + 4) ≤ (↑x1.length : Int)))
 (chk (Decidable.decide (0 ≤ y1.1) && Decidable.decide (y1.1 < (↑x1.length : Int))) (chk (Decidable.decide (0 ≤ IntKind.i64.wrap (y1.1 + 1)) &&
  Decidable.decide (IntKind.i64.wrap (y1.1 + 1) < (↑x1.length : Int))) (chk (Decidable.decide (0 ≤ IntKind.i64.wrap (y1.1 + 2)) &&
  Decidable.decide (IntKind.i64.wrap (y1.1 + 2) < (↑x1.length : Int))) (chk (Decidable.decide (0 ≤ IntKind.i64.wrap (y1.1 + 3)) &&
  Decidable.decide (IntKind.i64.wrap (y1.1 + 3) < (↑x1.length : Int))) (bindS (g43' N ((IntKind.u32.wrap
    (IntKind.u32.wrap
        (IntKind.u32.wrap
            (IntKind.u32.wrap (x1.getD y1.1.toNat 0) +
              IntKind.u32.wrap (256 * IntKind.u32.wrap (x1.getD (IntKind.i64.wrap (y1.1 + 1)).toNat 0))) +
          IntKind.u32.wrap (65536 * IntKind.u32.wrap (x1.getD (IntKind.i64.wrap (y1.1 + 2)).toNat 0))) +
      IntKind.u32.wrap (16777216 * IntKind.u32.wrap (x1.getD (IntKind.i64.wrap (y1.1 + 3)).toNat 0)))))) (fun (y2 : (Int × Int × Int × Int × Int × Bool × Bool × Int × Int) × Bool) => chk (Decidable.decide ((y1.2.length + [y2.1].length) * 64 ≤ lim)) (again0 ((IntKind.i64.wrap (y1.1 + 4), y1.2 ++ [y2.1])))))))))
 (some y1.2))
 ((0, [])) := by kernel_rfl
def F17 (N : Nat) (x1 : List Int) : Option (List (Int × (Int × (Int × (Int × (Int × (Bool × (Bool × (Int × Int))))))))) :=
  fixN N (fun again0 (y1 : Int × List (Int × Int × Int × Int × Int × Bool × Bool × Int × Int)) => br (Decidable.decide (IntKind.i64.wrap (y1.1 + 4) ≤ (↑x1.length : Int)))
 (chk (Decidable.decide (0 ≤ y1.1) && Decidable.decide (y1.1 < (↑x1.length : Int))) (chk (Decidable.decide (0 ≤ IntKind.i64.wrap (y1.1 + 1)) &&
  Decidable.decide (IntKind.i64.wrap (y1.1 + 1) < (↑x1.length : Int))) (chk (Decidable.decide (0 ≤ IntKind.i64.wrap (y1.1 + 2)) &&
  Decidable.decide (IntKind.i64.wrap (y1.1 + 2) < (↑x1.length : Int))) (chk (Decidable.decide (0 ≤ IntKind.i64.wrap (y1.1 + 3)) &&
  Decidable.decide (IntKind.i64.wrap (y1.1 + 3) < (↑x1.length : Int))) (bindS (F43 N ((IntKind.u32.wrap
    (IntKind.u32.wrap
        (IntKind.u32.wrap
            (IntKind.u32.wrap (x1.getD y1.1.toNat 0) +
              IntKind.u32.wrap (256 * IntKind.u32.wrap (x1.getD (IntKind.i64.wrap (y1.1 + 1)).toNat 0))) +
          IntKind.u32.wrap (65536 * IntKind.u32.wrap (x1.getD (IntKind.i64.wrap (y1.1 + 2)).toNat 0))) +
      IntKind.u32.wrap (16777216 * IntKind.u32.wrap (x1.getD (IntKind.i64.wrap (y1.1 + 3)).toNat 0)))))) (fun (y2 : (Int × Int × Int × Int × Int × Bool × Bool × Int × Int) × Bool) => chk (Decidable.decide ((y1.2.length + [y2.1].length) * 64 ≤ lim)) (again0 ((IntKind.i64.wrap (y1.1 + 4), y1.2 ++ [y2.1])))))))))
 (some y1.2))
 ((0, []))
theorem F17_eq (N : Nat) (x1 : List Int) : g17' N x1 = F17 N x1 := by
  refine (e17 N x1).trans ?_
  simp only [F43_eq, F17]
def g15' (N : Nat) (x1 : List (Int × (Int × (Int × (Int × (Int × (Bool × (Bool × (Int × Int))))))))) (x2 : List (Int × (Int × (Int × (Int × (Int × (Bool × (Bool × (Int × Int))))))))) : Option (Bool) := f15 N (x1, x2)
theorem e15 (N : Nat) (x1 : List (Int × (Int × (Int × (Int × (Int × (Bool × (Bool × (Int × Int))))))))) (x2 : List (Int × (Int × (Int × (Int × (Int × (Bool × (Bool × (Int × Int))))))))) : g15' N x1 x2 =
  br (!Decidable.decide ((↑x1.length : Int) = (↑x2.length : Int)))
 (some Bool.false)
 (fixN N (fun again0 (y1 : Int) => br (Decidable.decide (y1 < (↑x1.length : Int)))
 (chk (Decidable.decide (0 ≤ y1) && Decidable.decide (y1 < (↑x1.length : Int))) (chk (Decidable.decide (0 ≤ y1) && Decidable.decide (y1 < (↑x2.length : Int))) (br (!((Ty.int IntKind.i64).pair
        ((Ty.int IntKind.i64).pair
          ((Ty.int IntKind.i64).pair
            ((Ty.int IntKind.i64).pair
              ((Ty.int IntKind.i64).pair
                (Ty.bool.pair
                  (Ty.bool.pair ((Ty.int IntKind.i64).pair (Ty.int IntKind.i64))))))))).eq
    (x1.getD y1.toNat (0, 0, 0, 0, 0, Bool.false, Bool.false, 0, 0))
    (x2.getD y1.toNat (0, 0, 0, 0, 0, Bool.false, Bool.false, 0, 0)))
 (some Bool.false)
 (again0 (IntKind.i64.wrap (y1 + 1))))))
 (some Bool.true))
 0) := by kernel_rfl
def F15 (N : Nat) (x1 : List (Int × (Int × (Int × (Int × (Int × (Bool × (Bool × (Int × Int))))))))) (x2 : List (Int × (Int × (Int × (Int × (Int × (Bool × (Bool × (Int × Int))))))))) : Option (Bool) :=
  br (!Decidable.decide ((↑x1.length : Int) = (↑x2.length : Int)))
 (some Bool.false)
 (fixN N (fun again0 (y1 : Int) => br (Decidable.decide (y1 < (↑x1.length : Int)))
 (chk (Decidable.decide (0 ≤ y1) && Decidable.decide (y1 < (↑x1.length : Int))) (chk (Decidable.decide (0 ≤ y1) && Decidable.decide (y1 < (↑x2.length : Int))) (br (!((Ty.int IntKind.i64).pair
        ((Ty.int IntKind.i64).pair
          ((Ty.int IntKind.i64).pair
            ((Ty.int IntKind.i64).pair
              ((Ty.int IntKind.i64).pair
                (Ty.bool.pair
                  (Ty.bool.pair ((Ty.int IntKind.i64).pair (Ty.int IntKind.i64))))))))).eq
    (x1.getD y1.toNat (0, 0, 0, 0, 0, Bool.false, Bool.false, 0, 0))
    (x2.getD y1.toNat (0, 0, 0, 0, 0, Bool.false, Bool.false, 0, 0)))
 (some Bool.false)
 (again0 (IntKind.i64.wrap (y1 + 1))))))
 (some Bool.true))
 0)
theorem F15_eq (N : Nat) (x1 : List (Int × (Int × (Int × (Int × (Int × (Bool × (Bool × (Int × Int))))))))) (x2 : List (Int × (Int × (Int × (Int × (Int × (Bool × (Bool × (Int × Int))))))))) : g15' N x1 x2 = F15 N x1 x2 := by
  refine (e15 N x1 x2).trans ?_
  rfl
def g18' (N : Nat) (x1 : List Int) (x2 : List Int) : Option (Bool) := f18 N (x1, x2)
theorem e18 (N : Nat) (x1 : List Int) (x2 : List Int) : g18' N x1 x2 =
  br (!Decidable.decide ((↑x1.length : Int) = (↑x2.length : Int)))
 (some Bool.false)
 (fixN N (fun again0 (y1 : Int) => br (Decidable.decide (y1 < (↑x1.length : Int)))
 (chk (Decidable.decide (0 ≤ y1) && Decidable.decide (y1 < (↑x1.length : Int))) (chk (Decidable.decide (0 ≤ y1) && Decidable.decide (y1 < (↑x2.length : Int))) (br (!Decidable.decide (x1.getD y1.toNat 0 = x2.getD y1.toNat 0))
 (some Bool.false)
 (again0 (IntKind.i64.wrap (y1 + 1))))))
 (some Bool.true))
 0) := by kernel_rfl
def F18 (N : Nat) (x1 : List Int) (x2 : List Int) : Option (Bool) :=
  br (!Decidable.decide ((↑x1.length : Int) = (↑x2.length : Int)))
 (some Bool.false)
 (fixN N (fun again0 (y1 : Int) => br (Decidable.decide (y1 < (↑x1.length : Int)))
 (chk (Decidable.decide (0 ≤ y1) && Decidable.decide (y1 < (↑x1.length : Int))) (chk (Decidable.decide (0 ≤ y1) && Decidable.decide (y1 < (↑x2.length : Int))) (br (!Decidable.decide (x1.getD y1.toNat 0 = x2.getD y1.toNat 0))
 (some Bool.false)
 (again0 (IntKind.i64.wrap (y1 + 1))))))
 (some Bool.true))
 0)
theorem F18_eq (N : Nat) (x1 : List Int) (x2 : List Int) : g18' N x1 x2 = F18 N x1 x2 := by
  refine (e18 N x1 x2).trans ?_
  rfl
def g6' (N : Nat) (x1 : List (Int × (Int × (Int × (Int × (Int × (Bool × (Bool × (Int × Int))))))))) (x2 : List Int) : Option (Bool) := f6 N (x1, x2)
theorem e6 (N : Nat) (x1 : List (Int × (Int × (Int × (Int × (Int × (Bool × (Bool × (Int × Int))))))))) (x2 : List Int) : g6' N x1 x2 =
  bindS (g7' N ) (fun (y0 : Bool) => br (!y0)
 (some Bool.false)
 (jp (fun (y1 : Bool) => br y1
 (bindS (g7' N ) (fun (y2 : Bool) => some y2))
 (bindS (g13' N x1) (fun (y3 : Int × List Int) => fixN N (fun again4 (y5 : Bool × Int × List Int) => br (Decidable.decide (y5.2.1 < (↑x1.length : Int)))
 (jp (fun (y6 : Bool × List Int) => again4 ((y6.1, (IntKind.i64.wrap (y5.2.1 + 1), y6.2))))
 (fun K7 => jp (fun (y8 : Bool) => br y8
 (chk (Decidable.decide (0 ≤ y5.2.1) && Decidable.decide (y5.2.1 < (↑x1.length : Int))) (bindS (g11' N ((x1.getD y5.2.1.toNat (0, 0, 0, 0, 0, Bool.false, Bool.false, 0, 0)))) (fun (y9 : Int) => bindS (g14' N (IntKind.u64.wrap y9) 4) (fun (y10 : List Int) => chk (Decidable.decide ((y5.2.2.length + y10.length) * 1 ≤ lim)) (K7 ((y8, y5.2.2 ++ y10)))))))
 (K7 ((y8, y5.2.2))))
 (fun K11 => br y5.1
 (chk (Decidable.decide (0 ≤ y5.2.1) && Decidable.decide (y5.2.1 < (↑x1.length : Int))) (bindS (g9' N ((x1.getD y5.2.1.toNat (0, 0, 0, 0, 0, Bool.false, Bool.false, 0, 0)))) (fun (y12 : Bool) => K11 y12)))
 (K11 Bool.false))))
 (bindS (g16' N x2) (fun (y13 : List (Int × Int × Int × Int × Int × Bool × Bool × Int × Int)) => bindS (g17' N x2) (fun (y14 : List (Int × Int × Int × Int × Int × Bool × Bool × Int × Int)) => bindS (g15' N y13 y14) (fun (y15 : Bool) => br (!y15)
 (some Bool.false)
 (br (!y5.1)
 (jp (fun (y16 : Bool) => some y16)
 (fun K17 => bindS (g7' N ) (fun (y18 : Bool) => br y18
 (br (Decidable.decide ((↑y3.2.length : Int) = 0))
 (K17 (Decidable.decide (y3.1 = 1)))
 (K17 Bool.false))
 (K17 Bool.false))))
 (jp (fun (y19 : Bool) => some y19)
 (fun K20 => bindS (g7' N ) (fun (y21 : Bool) => br y21
 (br (Decidable.decide (y3.1 = 0))
 (bindS (g18' N y3.2 y5.2.2) (fun (y22 : Bool) => br y22
 (bindS (g16' N y3.2) (fun (y23 : List (Int × Int × Int × Int × Int × Bool × Bool × Int × Int)) => bindS (g15' N y23 x1) (fun (y24 : Bool) => K20 y24)))
 (K20 Bool.false)))
 (K20 Bool.false))
 (K20 Bool.false))))))))))
 ((Bool.true, (0, []))))))
 (fun K25 => br (Decidable.decide (1000 < (↑x1.length : Int)))
 (K25 Bool.true)
 (K25 (Decidable.decide (4000 < (↑x2.length : Int))))))) := by kernel_rfl
def F6 (N : Nat) (x1 : List (Int × (Int × (Int × (Int × (Int × (Bool × (Bool × (Int × Int))))))))) (x2 : List Int) : Option (Bool) :=
  bindS (F7 N ) (fun (y0 : Bool) => br (!y0)
 (some Bool.false)
 (jp (fun (y1 : Bool) => br y1
 (bindS (F7 N ) (fun (y2 : Bool) => some y2))
 (bindS (F13 N x1) (fun (y3 : Int × List Int) => fixN N (fun again4 (y5 : Bool × Int × List Int) => br (Decidable.decide (y5.2.1 < (↑x1.length : Int)))
 (jp (fun (y6 : Bool × List Int) => again4 ((y6.1, (IntKind.i64.wrap (y5.2.1 + 1), y6.2))))
 (fun K7 => jp (fun (y8 : Bool) => br y8
 (chk (Decidable.decide (0 ≤ y5.2.1) && Decidable.decide (y5.2.1 < (↑x1.length : Int))) (bindS (F11 N ((x1.getD y5.2.1.toNat (0, 0, 0, 0, 0, Bool.false, Bool.false, 0, 0)))) (fun (y9 : Int) => bindS (F14 N (IntKind.u64.wrap y9) 4) (fun (y10 : List Int) => chk (Decidable.decide ((y5.2.2.length + y10.length) * 1 ≤ lim)) (K7 ((y8, y5.2.2 ++ y10)))))))
 (K7 ((y8, y5.2.2))))
 (fun K11 => br y5.1
 (chk (Decidable.decide (0 ≤ y5.2.1) && Decidable.decide (y5.2.1 < (↑x1.length : Int))) (bindS (F9 N ((x1.getD y5.2.1.toNat (0, 0, 0, 0, 0, Bool.false, Bool.false, 0, 0)))) (fun (y12 : Bool) => K11 y12)))
 (K11 Bool.false))))
 (bindS (F16 N x2) (fun (y13 : List (Int × Int × Int × Int × Int × Bool × Bool × Int × Int)) => bindS (F17 N x2) (fun (y14 : List (Int × Int × Int × Int × Int × Bool × Bool × Int × Int)) => bindS (F15 N y13 y14) (fun (y15 : Bool) => br (!y15)
 (some Bool.false)
 (br (!y5.1)
 (jp (fun (y16 : Bool) => some y16)
 (fun K17 => bindS (F7 N ) (fun (y18 : Bool) => br y18
 (br (Decidable.decide ((↑y3.2.length : Int) = 0))
 (K17 (Decidable.decide (y3.1 = 1)))
 (K17 Bool.false))
 (K17 Bool.false))))
 (jp (fun (y19 : Bool) => some y19)
 (fun K20 => bindS (F7 N ) (fun (y21 : Bool) => br y21
 (br (Decidable.decide (y3.1 = 0))
 (bindS (F18 N y3.2 y5.2.2) (fun (y22 : Bool) => br y22
 (bindS (F16 N y3.2) (fun (y23 : List (Int × Int × Int × Int × Int × Bool × Bool × Int × Int)) => bindS (F15 N y23 x1) (fun (y24 : Bool) => K20 y24)))
 (K20 Bool.false)))
 (K20 Bool.false))
 (K20 Bool.false))))))))))
 ((Bool.true, (0, []))))))
 (fun K25 => br (Decidable.decide (1000 < (↑x1.length : Int)))
 (K25 Bool.true)
 (K25 (Decidable.decide (4000 < (↑x2.length : Int)))))))
theorem F6_eq (N : Nat) (x1 : List (Int × (Int × (Int × (Int × (Int × (Bool × (Bool × (Int × Int))))))))) (x2 : List Int) : g6' N x1 x2 = F6 N x1 x2 := by
  refine (e6 N x1 x2).trans ?_
  simp only [F11_eq, F13_eq, F14_eq, F15_eq, F16_eq, F17_eq, F18_eq, F7_eq, F9_eq, F6]
end Go.Proofs.Ytkcfkegkhopakaa
