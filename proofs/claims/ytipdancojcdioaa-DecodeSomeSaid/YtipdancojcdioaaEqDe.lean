/- What the contracts' functions come to, as printed. No condition. -/
import Derived.Test.YtipdancojcdioaaConDe
import Derived.KernelRfl
namespace Go.Proofs.Ytipdancojcdioaa
open Go Go.Ev Go.Sh
set_option maxRecDepth 100000
set_option linter.unusedVariables false
def g104' (N : Nat) (x1 : Int) (x2 : Int) : Option (Int) := f104 N (x1, x2)
theorem e104 (N : Nat) (x1 : Int) (x2 : Int) : g104' N x1 x2 =
  br (Decidable.decide (x2 < 1))
 (some 0)
 (br (Decidable.decide (64 ≤ x2))
 (some x1)
 (chk (Decidable.decide (0 ≤ x2)) (some (Go.bits Go.BinOp.and IntKind.u64 x1
  (IntKind.u64.wrap (IntKind.u64.wrap (1 * 2 ^ Min.min x2.toNat IntKind.u64.bits) - 1)))))) := by kernel_rfl
def F104 (N : Nat) (x1 : Int) (x2 : Int) : Option (Int) :=
  br (Decidable.decide (x2 < 1))
 (some 0)
 (br (Decidable.decide (64 ≤ x2))
 (some x1)
 (chk (Decidable.decide (0 ≤ x2)) (some (Go.bits Go.BinOp.and IntKind.u64 x1
  (IntKind.u64.wrap (IntKind.u64.wrap (1 * 2 ^ Min.min x2.toNat IntKind.u64.bits) - 1))))))
theorem F104_eq (N : Nat) (x1 : Int) (x2 : Int) : g104' N x1 x2 = F104 N x1 x2 := by
  refine (e104 N x1 x2).trans ?_
  rfl
def g97' (N : Nat) (x1 : Int) (x2 : Int) (x3 : Int) : Option (Int) := f97 N (x1, x2, x3)
theorem e97 (N : Nat) (x1 : Int) (x2 : Int) (x3 : Int) : g97' N x1 x2 x3 =
  jp (fun (y0 : Bool) => br y0
 (some 0)
 (chk (Decidable.decide (0 ≤ x3)) (bindS (g104' N ((IntKind.u64.wrap x1).fdiv (2 ^ Min.min x3.toNat IntKind.u64.bits)) (IntKind.i64.wrap (IntKind.i64.wrap (x2 - x3) + 1))) (fun (y1 : Int) => some (IntKind.u32.wrap y1)))))
 (fun K2 => br (Decidable.decide (31 < x2))
 (K2 Bool.true)
 (br (Decidable.decide (x2 < x3))
 (K2 Bool.true)
 (K2 (Decidable.decide (x3 < 0))))) := by kernel_rfl
def F97 (N : Nat) (x1 : Int) (x2 : Int) (x3 : Int) : Option (Int) :=
  jp (fun (y0 : Bool) => br y0
 (some 0)
 (chk (Decidable.decide (0 ≤ x3)) (bindS (F104 N ((IntKind.u64.wrap x1).fdiv (2 ^ Min.min x3.toNat IntKind.u64.bits)) (IntKind.i64.wrap (IntKind.i64.wrap (x2 - x3) + 1))) (fun (y1 : Int) => some (IntKind.u32.wrap y1)))))
 (fun K2 => br (Decidable.decide (31 < x2))
 (K2 Bool.true)
 (br (Decidable.decide (x2 < x3))
 (K2 Bool.true)
 (K2 (Decidable.decide (x3 < 0)))))
theorem F97_eq (N : Nat) (x1 : Int) (x2 : Int) (x3 : Int) : g97' N x1 x2 x3 = F97 N x1 x2 x3 := by
  refine (e97 N x1 x2 x3).trans ?_
  simp only [F104_eq, F97]
def g96' (N : Nat) (x1 : Int) (x2 : Int) (x3 : Int) : Option (Int) := f96 N (x1, x2, x3)
theorem e96 (N : Nat) (x1 : Int) (x2 : Int) (x3 : Int) : g96' N x1 x2 x3 =
  bindS (g97' N x3 x1 x2) (fun (y0 : Int) => some y0) := by kernel_rfl
def F96 (N : Nat) (x1 : Int) (x2 : Int) (x3 : Int) : Option (Int) :=
  bindS (F97 N x3 x1 x2) (fun (y0 : Int) => some y0)
theorem F96_eq (N : Nat) (x1 : Int) (x2 : Int) (x3 : Int) : g96' N x1 x2 x3 = F96 N x1 x2 x3 := by
  refine (e96 N x1 x2 x3).trans ?_
  simp only [F97_eq, F96]
def g80' (N : Nat) (x1 : Int) : Option ((Int × (Int × (Int × (Int × (Int × Int)))))) := f80 N (x1)
theorem e80 (N : Nat) (x1 : Int) : g80' N x1 =
  bindS (g96' N 11 7 x1) (fun (y0 : Int) => bindS (g96' N 19 15 x1) (fun (y1 : Int) => bindS (g96' N 24 20 x1) (fun (y2 : Int) => bindS (g96' N 14 12 x1) (fun (y3 : Int) => bindS (g96' N 31 25 x1) (fun (y4 : Int) => some ((x1, (IntKind.i64.wrap y0, (IntKind.i64.wrap y1, (IntKind.i64.wrap y2, (y3, y4))))))))))) := by kernel_rfl
def F80 (N : Nat) (x1 : Int) : Option ((Int × (Int × (Int × (Int × (Int × Int)))))) :=
  bindS (F96 N 11 7 x1) (fun (y0 : Int) => bindS (F96 N 19 15 x1) (fun (y1 : Int) => bindS (F96 N 24 20 x1) (fun (y2 : Int) => bindS (F96 N 14 12 x1) (fun (y3 : Int) => bindS (F96 N 31 25 x1) (fun (y4 : Int) => some ((x1, (IntKind.i64.wrap y0, (IntKind.i64.wrap y1, (IntKind.i64.wrap y2, (y3, y4)))))))))))
theorem F80_eq (N : Nat) (x1 : Int) : g80' N x1 = F80 N x1 := by
  refine (e80 N x1).trans ?_
  simp only [F96_eq, F80]
def g105' (N : Nat)  : Option (Int × Int × Int × Int × Int × Int × Int × Int × Int × Int × Int × Int × List (Int × (Int × Int)) × List (Int × (Int × Int)) × List (Int × (Int × Int)) × List (Int × (Int × Int)) × List (Int × (Int × Int))) := f105 N ()
theorem e105 (N : Nat)  : g105' N  =
  some ((0, (0, (12, (0, (12, (0, (13, (1, (32, (12, (21, (1, ([(31, 20, 0)], ([(31, 25, 5), (11, 7, 0)], ([(31, 31, 12), (7, 7, 11), (30, 25, 5), (11, 8, 1)], ([(31, 12, 12)], [(31, 31, 20), (19, 12, 12), (20, 20, 11), (30, 21, 1)]))))))))))))))))) := by kernel_rfl
def F105 (N : Nat)  : Option (Int × Int × Int × Int × Int × Int × Int × Int × Int × Int × Int × Int × List (Int × (Int × Int)) × List (Int × (Int × Int)) × List (Int × (Int × Int)) × List (Int × (Int × Int)) × List (Int × (Int × Int))) :=
  some ((0, (0, (12, (0, (12, (0, (13, (1, (32, (12, (21, (1, ([(31, 20, 0)], ([(31, 25, 5), (11, 7, 0)], ([(31, 31, 12), (7, 7, 11), (30, 25, 5), (11, 8, 1)], ([(31, 12, 12)], [(31, 31, 20), (19, 12, 12), (20, 20, 11), (30, 21, 1)])))))))))))))))))
theorem F105_eq (N : Nat)  : g105' N  = F105 N  := by
  refine (e105 N ).trans ?_
  rfl
def g102' (N : Nat) (x1 : Int) : Option (Int × Int × Bool × List (Int × (Int × Int))) := f102 N (x1)
theorem e102 (N : Nat) (x1 : Int) : g102' N x1 =
  jp (fun (y0 : Bool) => br y0
 (some ((0, (0, (Bool.false, [])))))
 (jp (fun (y1 : Bool × Int × Int × List (Int × Int × Int)) => some ((y1.2.1, (y1.2.2.1, (y1.1, y1.2.2.2)))))
 (fun K2 => bindS (g105' N ) (fun (y3 : Int ×
  Int ×
    Int ×
      Int ×
        Int ×
          Int ×
            Int ×
              Int ×
                Int ×
                  Int ×
                    Int ×
                      Int ×
                        List (Int × Int × Int) ×
                          List (Int × Int × Int) ×
                            List (Int × Int × Int) × List (Int × Int × Int) × List (Int × Int × Int)) => chk (Decidable.decide (0 ≤ x1) && Decidable.decide (x1 < (↑6 : Int))) (br (x1.toNat.beq 0)
 (K2 ((Bool.true, (y3.1, (y3.2.1, [])))))
 (br (x1.toNat.beq (0 + 1))
 (K2 ((Bool.true, (y3.2.2.1, (y3.2.2.2.1, y3.2.2.2.2.2.2.2.2.2.2.2.2.1)))))
 (br (x1.toNat.beq (0 + 1 + 1))
 (K2 ((Bool.true, (y3.2.2.2.2.1, (y3.2.2.2.2.2.1, y3.2.2.2.2.2.2.2.2.2.2.2.2.2.1)))))
 (br (x1.toNat.beq (0 + 1 + 1 + 1))
 (K2 ((Bool.true, (y3.2.2.2.2.2.2.1, (y3.2.2.2.2.2.2.2.1, y3.2.2.2.2.2.2.2.2.2.2.2.2.2.2.1)))))
 (br (x1.toNat.beq (0 + 1 + 1 + 1 + 1))
 (K2 ((Bool.true, (y3.2.2.2.2.2.2.2.2.1, (y3.2.2.2.2.2.2.2.2.2.1, y3.2.2.2.2.2.2.2.2.2.2.2.2.2.2.2.1)))))
 (K2 ((Bool.true, (y3.2.2.2.2.2.2.2.2.2.2.1, (y3.2.2.2.2.2.2.2.2.2.2.2.1, y3.2.2.2.2.2.2.2.2.2.2.2.2.2.2.2.2))))))))))))))
 (fun K4 => br (Decidable.decide (x1 < 1))
 (K4 Bool.true)
 (K4 (Decidable.decide (5 < x1)))) := by kernel_rfl
def F102 (N : Nat) (x1 : Int) : Option (Int × Int × Bool × List (Int × (Int × Int))) :=
  jp (fun (y0 : Bool) => br y0
 (some ((0, (0, (Bool.false, [])))))
 (jp (fun (y1 : Bool × Int × Int × List (Int × Int × Int)) => some ((y1.2.1, (y1.2.2.1, (y1.1, y1.2.2.2)))))
 (fun K2 => bindS (F105 N ) (fun (y3 : Int ×
  Int ×
    Int ×
      Int ×
        Int ×
          Int ×
            Int ×
              Int ×
                Int ×
                  Int ×
                    Int ×
                      Int ×
                        List (Int × Int × Int) ×
                          List (Int × Int × Int) ×
                            List (Int × Int × Int) × List (Int × Int × Int) × List (Int × Int × Int)) => chk (Decidable.decide (0 ≤ x1) && Decidable.decide (x1 < (↑6 : Int))) (br (x1.toNat.beq 0)
 (K2 ((Bool.true, (y3.1, (y3.2.1, [])))))
 (br (x1.toNat.beq (0 + 1))
 (K2 ((Bool.true, (y3.2.2.1, (y3.2.2.2.1, y3.2.2.2.2.2.2.2.2.2.2.2.2.1)))))
 (br (x1.toNat.beq (0 + 1 + 1))
 (K2 ((Bool.true, (y3.2.2.2.2.1, (y3.2.2.2.2.2.1, y3.2.2.2.2.2.2.2.2.2.2.2.2.2.1)))))
 (br (x1.toNat.beq (0 + 1 + 1 + 1))
 (K2 ((Bool.true, (y3.2.2.2.2.2.2.1, (y3.2.2.2.2.2.2.2.1, y3.2.2.2.2.2.2.2.2.2.2.2.2.2.2.1)))))
 (br (x1.toNat.beq (0 + 1 + 1 + 1 + 1))
 (K2 ((Bool.true, (y3.2.2.2.2.2.2.2.2.1, (y3.2.2.2.2.2.2.2.2.2.1, y3.2.2.2.2.2.2.2.2.2.2.2.2.2.2.2.1)))))
 (K2 ((Bool.true, (y3.2.2.2.2.2.2.2.2.2.2.1, (y3.2.2.2.2.2.2.2.2.2.2.2.1, y3.2.2.2.2.2.2.2.2.2.2.2.2.2.2.2.2))))))))))))))
 (fun K4 => br (Decidable.decide (x1 < 1))
 (K4 Bool.true)
 (K4 (Decidable.decide (5 < x1))))
theorem F102_eq (N : Nat) (x1 : Int) : g102' N x1 = F102 N x1 := by
  refine (e102 N x1).trans ?_
  simp only [F105_eq, F102]
def g103' (N : Nat) (x1 : Int) (x2 : Int) : Option (Int) := f103 N (x1, x2)
theorem e103 (N : Nat) (x1 : Int) (x2 : Int) : g103' N x1 x2 =
  jp (fun (y0 : Bool) => br y0
 (bindS (g104' N x1 x2) (fun (y1 : Int) => some y1))
 (chk (Decidable.decide (0 ≤ IntKind.i64.wrap (64 - x2))) (chk (Decidable.decide (0 ≤ IntKind.i64.wrap (64 - x2))) (some (IntKind.u64.wrap
  ((IntKind.i64.wrap
        (IntKind.u64.wrap (x1 * 2 ^ Min.min (IntKind.i64.wrap (64 - x2)).toNat IntKind.u64.bits))).fdiv
    (2 ^ Min.min (IntKind.i64.wrap (64 - x2)).toNat IntKind.i64.bits)))))))
 (fun K2 => br (Decidable.decide (x2 < 1))
 (K2 Bool.true)
 (K2 (Decidable.decide (64 ≤ x2)))) := by kernel_rfl
def F103 (N : Nat) (x1 : Int) (x2 : Int) : Option (Int) :=
  jp (fun (y0 : Bool) => br y0
 (bindS (F104 N x1 x2) (fun (y1 : Int) => some y1))
 (chk (Decidable.decide (0 ≤ IntKind.i64.wrap (64 - x2))) (chk (Decidable.decide (0 ≤ IntKind.i64.wrap (64 - x2))) (some (IntKind.u64.wrap
  ((IntKind.i64.wrap
        (IntKind.u64.wrap (x1 * 2 ^ Min.min (IntKind.i64.wrap (64 - x2)).toNat IntKind.u64.bits))).fdiv
    (2 ^ Min.min (IntKind.i64.wrap (64 - x2)).toNat IntKind.i64.bits)))))))
 (fun K2 => br (Decidable.decide (x2 < 1))
 (K2 Bool.true)
 (K2 (Decidable.decide (64 ≤ x2))))
theorem F103_eq (N : Nat) (x1 : Int) (x2 : Int) : g103' N x1 x2 = F103 N x1 x2 := by
  refine (e103 N x1 x2).trans ?_
  simp only [F104_eq, F103]
def g88' (N : Nat) (x1 : Int) (x2 : Int) : Option (Int) := f88 N (x1, x2)
theorem e88 (N : Nat) (x1 : Int) (x2 : Int) : g88' N x1 x2 =
  bindS (g102' N x1) (fun (y0 : Int × Int × Bool × List (Int × Int × Int)) => br (!y0.2.2.1)
 (some 0)
 (fixN N (fun again1 (y2 : Int × Int) => br (Decidable.decide (y2.2 < (↑y0.2.2.2.length : Int)))
 (chk (Decidable.decide (0 ≤ y2.2) && Decidable.decide (y2.2 < (↑y0.2.2.2.length : Int))) (bindS (g97' N x2 ((y0.2.2.2.getD y2.2.toNat (0, 0, 0)).1) ((y0.2.2.2.getD y2.2.toNat (0, 0, 0)).2.1)) (fun (y3 : Int) => chk (Decidable.decide (0 ≤ (y0.2.2.2.getD y2.2.toNat (0, 0, 0)).2.2)) (again1 ((Go.bits Go.BinOp.or IntKind.u64 y2.1
  (IntKind.u64.wrap
    (IntKind.u64.wrap y3 * 2 ^ Min.min (Int.toNat (y0.2.2.2.getD y2.2.toNat (0, 0, 0)).2.2) IntKind.u64.bits)), IntKind.i64.wrap (y2.2 + 1)))))))
 (bindS (g103' N y2.1 y0.1) (fun (y4 : Int) => some (IntKind.i64.wrap y4))))
 ((0, 0)))) := by kernel_rfl
def F88 (N : Nat) (x1 : Int) (x2 : Int) : Option (Int) :=
  bindS (F102 N x1) (fun (y0 : Int × Int × Bool × List (Int × Int × Int)) => br (!y0.2.2.1)
 (some 0)
 (fixN N (fun again1 (y2 : Int × Int) => br (Decidable.decide (y2.2 < (↑y0.2.2.2.length : Int)))
 (chk (Decidable.decide (0 ≤ y2.2) && Decidable.decide (y2.2 < (↑y0.2.2.2.length : Int))) (bindS (F97 N x2 ((y0.2.2.2.getD y2.2.toNat (0, 0, 0)).1) ((y0.2.2.2.getD y2.2.toNat (0, 0, 0)).2.1)) (fun (y3 : Int) => chk (Decidable.decide (0 ≤ (y0.2.2.2.getD y2.2.toNat (0, 0, 0)).2.2)) (again1 ((Go.bits Go.BinOp.or IntKind.u64 y2.1
  (IntKind.u64.wrap
    (IntKind.u64.wrap y3 * 2 ^ Min.min (Int.toNat (y0.2.2.2.getD y2.2.toNat (0, 0, 0)).2.2) IntKind.u64.bits)), IntKind.i64.wrap (y2.2 + 1)))))))
 (bindS (F103 N y2.1 y0.1) (fun (y4 : Int) => some (IntKind.i64.wrap y4))))
 ((0, 0))))
theorem F88_eq (N : Nat) (x1 : Int) (x2 : Int) : g88' N x1 x2 = F88 N x1 x2 := by
  refine (e88 N x1 x2).trans ?_
  simp only [F102_eq, F103_eq, F97_eq, F88]
def g89' (N : Nat) (x1 : (Int × (Int × (Int × (Int × (Int × Int)))))) : Option (Int × Int) := f89 N (x1)
theorem e89 (N : Nat) (x1 : (Int × (Int × (Int × (Int × (Int × Int)))))) : g89' N x1 =
  bindS (g97' N x1.1 25 20) (fun (y0 : Int) => bindS (g97' N x1.1 31 26) (fun (y1 : Int) => jp (fun (y2 : Bool) => br y2
 (some ((28, IntKind.i64.wrap y0)))
 (jp (fun (y3 : Bool) => br y3
 (some ((29, IntKind.i64.wrap y0)))
 (jp (fun (y4 : Bool) => br y4
 (some ((30, IntKind.i64.wrap y0)))
 (chk (Decidable.decide (0 ≤ x1.2.2.2.2.1) && Decidable.decide (x1.2.2.2.2.1 < (↑8 : Int))) (bindS (g88' N 1 x1.1) (fun (y5 : Int) => some (([22, 0, 23, 24, 25, 0, 26, 27].getD x1.2.2.2.2.1.toNat 0, y5))))))
 (fun K6 => br (Decidable.decide (x1.2.2.2.2.1 = 5))
 (K6 (Decidable.decide (y1 = 16)))
 (K6 Bool.false))))
 (fun K7 => br (Decidable.decide (x1.2.2.2.2.1 = 5))
 (K7 (Decidable.decide (y1 = 0)))
 (K7 Bool.false))))
 (fun K8 => br (Decidable.decide (x1.2.2.2.2.1 = 1))
 (K8 (Decidable.decide (y1 = 0)))
 (K8 Bool.false)))) := by kernel_rfl
def F89 (N : Nat) (x1 : (Int × (Int × (Int × (Int × (Int × Int)))))) : Option (Int × Int) :=
  bindS (F97 N x1.1 25 20) (fun (y0 : Int) => bindS (F97 N x1.1 31 26) (fun (y1 : Int) => jp (fun (y2 : Bool) => br y2
 (some ((28, IntKind.i64.wrap y0)))
 (jp (fun (y3 : Bool) => br y3
 (some ((29, IntKind.i64.wrap y0)))
 (jp (fun (y4 : Bool) => br y4
 (some ((30, IntKind.i64.wrap y0)))
 (chk (Decidable.decide (0 ≤ x1.2.2.2.2.1) && Decidable.decide (x1.2.2.2.2.1 < (↑8 : Int))) (bindS (F88 N 1 x1.1) (fun (y5 : Int) => some (([22, 0, 23, 24, 25, 0, 26, 27].getD x1.2.2.2.2.1.toNat 0, y5))))))
 (fun K6 => br (Decidable.decide (x1.2.2.2.2.1 = 5))
 (K6 (Decidable.decide (y1 = 16)))
 (K6 Bool.false))))
 (fun K7 => br (Decidable.decide (x1.2.2.2.2.1 = 5))
 (K7 (Decidable.decide (y1 = 0)))
 (K7 Bool.false))))
 (fun K8 => br (Decidable.decide (x1.2.2.2.2.1 = 1))
 (K8 (Decidable.decide (y1 = 0)))
 (K8 Bool.false))))
theorem F89_eq (N : Nat) (x1 : (Int × (Int × (Int × (Int × (Int × Int)))))) : g89' N x1 = F89 N x1 := by
  refine (e89 N x1).trans ?_
  simp only [F88_eq, F97_eq, F89]
def g90' (N : Nat) (x1 : (Int × (Int × (Int × (Int × (Int × Int)))))) : Option (Int × Int) := f90 N (x1)
theorem e90 (N : Nat) (x1 : (Int × (Int × (Int × (Int × (Int × Int)))))) : g90' N x1 =
  br (Decidable.decide (x1.2.2.2.2.1 = 0))
 (bindS (g88' N 1 x1.1) (fun (y0 : Int) => some ((31, y0))))
 (jp (fun (y1 : Bool) => br y1
 (some ((32, x1.2.2.2.1)))
 (jp (fun (y2 : Bool) => br y2
 (some ((33, x1.2.2.2.1)))
 (jp (fun (y3 : Bool) => br y3
 (some ((34, x1.2.2.2.1)))
 (some ((0, 0))))
 (fun K4 => br (Decidable.decide (x1.2.2.2.2.1 = 5))
 (K4 (Decidable.decide (x1.2.2.2.2.2 = 32)))
 (K4 Bool.false))))
 (fun K5 => br (Decidable.decide (x1.2.2.2.2.1 = 5))
 (K5 (Decidable.decide (x1.2.2.2.2.2 = 0)))
 (K5 Bool.false))))
 (fun K6 => br (Decidable.decide (x1.2.2.2.2.1 = 1))
 (K6 (Decidable.decide (x1.2.2.2.2.2 = 0)))
 (K6 Bool.false))) := by kernel_rfl
def F90 (N : Nat) (x1 : (Int × (Int × (Int × (Int × (Int × Int)))))) : Option (Int × Int) :=
  br (Decidable.decide (x1.2.2.2.2.1 = 0))
 (bindS (F88 N 1 x1.1) (fun (y0 : Int) => some ((31, y0))))
 (jp (fun (y1 : Bool) => br y1
 (some ((32, x1.2.2.2.1)))
 (jp (fun (y2 : Bool) => br y2
 (some ((33, x1.2.2.2.1)))
 (jp (fun (y3 : Bool) => br y3
 (some ((34, x1.2.2.2.1)))
 (some ((0, 0))))
 (fun K4 => br (Decidable.decide (x1.2.2.2.2.1 = 5))
 (K4 (Decidable.decide (x1.2.2.2.2.2 = 32)))
 (K4 Bool.false))))
 (fun K5 => br (Decidable.decide (x1.2.2.2.2.1 = 5))
 (K5 (Decidable.decide (x1.2.2.2.2.2 = 0)))
 (K5 Bool.false))))
 (fun K6 => br (Decidable.decide (x1.2.2.2.2.1 = 1))
 (K6 (Decidable.decide (x1.2.2.2.2.2 = 0)))
 (K6 Bool.false)))
theorem F90_eq (N : Nat) (x1 : (Int × (Int × (Int × (Int × (Int × Int)))))) : g90' N x1 = F90 N x1 := by
  refine (e90 N x1).trans ?_
  simp only [F88_eq, F90]
def g91' (N : Nat)  : Option (List Int × List Int) := f91 N ()
theorem e91 (N : Nat)  : g91' N  =
  some (([35, 37, 38, 39, 40, 41, 43, 44], [36, 0, 0, 0, 0, 42, 0, 0])) := by kernel_rfl
def F91 (N : Nat)  : Option (List Int × List Int) :=
  some (([35, 37, 38, 39, 40, 41, 43, 44], [36, 0, 0, 0, 0, 42, 0, 0]))
theorem F91_eq (N : Nat)  : g91' N  = F91 N  := by
  refine (e91 N ).trans ?_
  rfl
def g92' (N : Nat) (x1 : (Int × (Int × (Int × (Int × (Int × Int)))))) (x2 : List Int) (x3 : List Int) : Option (Int) := f92 N (x1, x2, x3)
theorem e92 (N : Nat) (x1 : (Int × (Int × (Int × (Int × (Int × Int)))))) (x2 : List Int) (x3 : List Int) : g92' N x1 x2 x3 =
  br (Decidable.decide (x1.2.2.2.2.2 = 0))
 (chk (Decidable.decide (0 ≤ x1.2.2.2.2.1) && Decidable.decide (x1.2.2.2.2.1 < (↑8 : Int))) (some (x2.getD x1.2.2.2.2.1.toNat 0)))
 (br (Decidable.decide (x1.2.2.2.2.2 = 32))
 (chk (Decidable.decide (0 ≤ x1.2.2.2.2.1) && Decidable.decide (x1.2.2.2.2.1 < (↑8 : Int))) (some (x3.getD x1.2.2.2.2.1.toNat 0)))
 (some 0)) := by kernel_rfl
def F92 (N : Nat) (x1 : (Int × (Int × (Int × (Int × (Int × Int)))))) (x2 : List Int) (x3 : List Int) : Option (Int) :=
  br (Decidable.decide (x1.2.2.2.2.2 = 0))
 (chk (Decidable.decide (0 ≤ x1.2.2.2.2.1) && Decidable.decide (x1.2.2.2.2.1 < (↑8 : Int))) (some (x2.getD x1.2.2.2.2.1.toNat 0)))
 (br (Decidable.decide (x1.2.2.2.2.2 = 32))
 (chk (Decidable.decide (0 ≤ x1.2.2.2.2.1) && Decidable.decide (x1.2.2.2.2.1 < (↑8 : Int))) (some (x3.getD x1.2.2.2.2.1.toNat 0)))
 (some 0))
theorem F92_eq (N : Nat) (x1 : (Int × (Int × (Int × (Int × (Int × Int)))))) (x2 : List Int) (x3 : List Int) : g92' N x1 x2 x3 = F92 N x1 x2 x3 := by
  refine (e92 N x1 x2 x3).trans ?_
  rfl
def g93' (N : Nat)  : Option (List Int × List Int) := f93 N ()
theorem e93 (N : Nat)  : g93' N  =
  some (([45, 47, 0, 0, 0, 48, 0, 0], [46, 0, 0, 0, 0, 49, 0, 0])) := by kernel_rfl
def F93 (N : Nat)  : Option (List Int × List Int) :=
  some (([45, 47, 0, 0, 0, 48, 0, 0], [46, 0, 0, 0, 0, 49, 0, 0]))
theorem F93_eq (N : Nat)  : g93' N  = F93 N  := by
  refine (e93 N ).trans ?_
  rfl
def g94' (N : Nat) (x1 : Int) : Option ((Int × (Int × (Int × (Int × (Int × (Bool × (Bool × (Int × Int))))))))) := f94 N (x1)
theorem e94 (N : Nat) (x1 : Int) : g94' N x1 =
  bindS (g97' N x1 31 20) (fun (y0 : Int) => br (Decidable.decide (y0 = 2099))
 (some ((51, (0, (0, (0, (0, (Bool.false, (Bool.false, (3, 3))))))))))
 (bindS (g97' N x1 27 24) (fun (y1 : Int) => bindS (g97' N x1 23 20) (fun (y2 : Int) => some ((50, (0, (0, (0, (0, (Bool.false, (Bool.false, (IntKind.i64.wrap y1, IntKind.i64.wrap y2))))))))))))) := by kernel_rfl
def F94 (N : Nat) (x1 : Int) : Option ((Int × (Int × (Int × (Int × (Int × (Bool × (Bool × (Int × Int))))))))) :=
  bindS (F97 N x1 31 20) (fun (y0 : Int) => br (Decidable.decide (y0 = 2099))
 (some ((51, (0, (0, (0, (0, (Bool.false, (Bool.false, (3, 3))))))))))
 (bindS (F97 N x1 27 24) (fun (y1 : Int) => bindS (F97 N x1 23 20) (fun (y2 : Int) => some ((50, (0, (0, (0, (0, (Bool.false, (Bool.false, (IntKind.i64.wrap y1, IntKind.i64.wrap y2)))))))))))))
theorem F94_eq (N : Nat) (x1 : Int) : g94' N x1 = F94 N x1 := by
  refine (e94 N x1).trans ?_
  simp only [F97_eq, F94]
def g95' (N : Nat) (x1 : (Int × (Int × (Int × (Int × (Int × Int)))))) : Option (Int) := f95 N (x1)
theorem e95 (N : Nat) (x1 : (Int × (Int × (Int × (Int × (Int × Int)))))) : g95' N x1 =
  bindS (g97' N x1.1 31 27) (fun (y0 : Int) => jp (fun (y1 : Int) => jp (fun (y2 : Bool) => br y2
 (some y1)
 (br (!Decidable.decide (x1.2.2.2.2.1 = 3))
 (some 0)
 (br (Decidable.decide (y1 ≤ 56))
 (some (IntKind.i64.wrap (y1 + 1)))
 (some (IntKind.i64.wrap (IntKind.i64.wrap (y1 + 67) - 58))))))
 (fun K3 => br (Decidable.decide (y1 = 0))
 (K3 Bool.true)
 (K3 (Decidable.decide (x1.2.2.2.2.1 = 2)))))
 (fun K4 => br (Decidable.decide (y0 = 2))
 (br (Decidable.decide (x1.2.2.2.1 = 0))
 (K4 54)
 (K4 0))
 (br (Decidable.decide (y0 = 3))
 (K4 56)
 (br (Decidable.decide (y0 = 1))
 (K4 58)
 (br (Decidable.decide (y0 = 0))
 (K4 59)
 (br (Decidable.decide (y0 = 4))
 (K4 60)
 (br (Decidable.decide (y0 = 12))
 (K4 61)
 (br (Decidable.decide (y0 = 8))
 (K4 62)
 (br (Decidable.decide (y0 = 16))
 (K4 63)
 (br (Decidable.decide (y0 = 20))
 (K4 64)
 (br (Decidable.decide (y0 = 24))
 (K4 65)
 (br (Decidable.decide (y0 = 28))
 (K4 66)
 (K4 0))))))))))))) := by kernel_rfl
def F95 (N : Nat) (x1 : (Int × (Int × (Int × (Int × (Int × Int)))))) : Option (Int) :=
  bindS (F97 N x1.1 31 27) (fun (y0 : Int) => jp (fun (y1 : Int) => jp (fun (y2 : Bool) => br y2
 (some y1)
 (br (!Decidable.decide (x1.2.2.2.2.1 = 3))
 (some 0)
 (br (Decidable.decide (y1 ≤ 56))
 (some (IntKind.i64.wrap (y1 + 1)))
 (some (IntKind.i64.wrap (IntKind.i64.wrap (y1 + 67) - 58))))))
 (fun K3 => br (Decidable.decide (y1 = 0))
 (K3 Bool.true)
 (K3 (Decidable.decide (x1.2.2.2.2.1 = 2)))))
 (fun K4 => br (Decidable.decide (y0 = 2))
 (br (Decidable.decide (x1.2.2.2.1 = 0))
 (K4 54)
 (K4 0))
 (br (Decidable.decide (y0 = 3))
 (K4 56)
 (br (Decidable.decide (y0 = 1))
 (K4 58)
 (br (Decidable.decide (y0 = 0))
 (K4 59)
 (br (Decidable.decide (y0 = 4))
 (K4 60)
 (br (Decidable.decide (y0 = 12))
 (K4 61)
 (br (Decidable.decide (y0 = 8))
 (K4 62)
 (br (Decidable.decide (y0 = 16))
 (K4 63)
 (br (Decidable.decide (y0 = 20))
 (K4 64)
 (br (Decidable.decide (y0 = 24))
 (K4 65)
 (br (Decidable.decide (y0 = 28))
 (K4 66)
 (K4 0)))))))))))))
theorem F95_eq (N : Nat) (x1 : (Int × (Int × (Int × (Int × (Int × Int)))))) : g95' N x1 = F95 N x1 := by
  refine (e95 N x1).trans ?_
  simp only [F97_eq, F95]
def g79' (N : Nat) (x1 : (Int × (Int × (Int × (Int × (Int × Int)))))) : Option ((Int × (Int × (Int × (Int × (Int × (Bool × (Bool × (Int × Int))))))))) := f79 N (x1)
theorem e79 (N : Nat) (x1 : (Int × (Int × (Int × (Int × (Int × Int)))))) : g79' N x1 =
  jp (fun (y0 : Int × Int × Int × Int × Int × Bool × Bool × Int × Int) => some y0)
 (fun K1 => br (Decidable.decide (Go.bits Go.BinOp.and IntKind.u32 x1.1 127 = 55))
 (bindS (g88' N 4 x1.1) (fun (y2 : Int) => K1 ((1, (x1.2.1, (x1.2.2.1, (x1.2.2.2.1, (y2, (Bool.false, (Bool.false, (0, 0)))))))))))
 (br (Decidable.decide (Go.bits Go.BinOp.and IntKind.u32 x1.1 127 = 23))
 (bindS (g88' N 4 x1.1) (fun (y3 : Int) => K1 ((2, (x1.2.1, (x1.2.2.1, (x1.2.2.2.1, (y3, (Bool.false, (Bool.false, (0, 0)))))))))))
 (br (Decidable.decide (Go.bits Go.BinOp.and IntKind.u32 x1.1 127 = 111))
 (bindS (g88' N 5 x1.1) (fun (y4 : Int) => K1 ((3, (x1.2.1, (x1.2.2.1, (x1.2.2.2.1, (y4, (Bool.false, (Bool.false, (0, 0)))))))))))
 (br (Decidable.decide (Go.bits Go.BinOp.and IntKind.u32 x1.1 127 = 103))
 (br (Decidable.decide (x1.2.2.2.2.1 = 0))
 (bindS (g88' N 1 x1.1) (fun (y5 : Int) => K1 ((4, (x1.2.1, (x1.2.2.1, (x1.2.2.2.1, (y5, (Bool.false, (Bool.false, (0, 0)))))))))))
 (K1 ((0, (x1.2.1, (x1.2.2.1, (x1.2.2.2.1, (0, (Bool.false, (Bool.false, (0, 0)))))))))))
 (br (Decidable.decide (Go.bits Go.BinOp.and IntKind.u32 x1.1 127 = 99))
 (chk (Decidable.decide (0 ≤ x1.2.2.2.2.1) && Decidable.decide (x1.2.2.2.2.1 < (↑8 : Int))) (bindS (g88' N 3 x1.1) (fun (y6 : Int) => K1 (([5, 6, 0, 0, 7, 8, 9, 10].getD x1.2.2.2.2.1.toNat 0, (x1.2.1, (x1.2.2.1, (x1.2.2.2.1, (y6, (Bool.false, (Bool.false, (0, 0))))))))))))
 (br (Decidable.decide (Go.bits Go.BinOp.and IntKind.u32 x1.1 127 = 3))
 (br (Decidable.decide (x1.2.2.2.2.1 < 7))
 (bindS (g88' N 1 x1.1) (fun (y7 : Int) => K1 ((IntKind.i64.wrap (11 + IntKind.i64.wrap x1.2.2.2.2.1), (x1.2.1, (x1.2.2.1, (x1.2.2.2.1, (y7, (Bool.false, (Bool.false, (0, 0)))))))))))
 (K1 ((0, (x1.2.1, (x1.2.2.1, (x1.2.2.2.1, (0, (Bool.false, (Bool.false, (0, 0)))))))))))
 (br (Decidable.decide (Go.bits Go.BinOp.and IntKind.u32 x1.1 127 = 35))
 (br (Decidable.decide (x1.2.2.2.2.1 < 4))
 (bindS (g88' N 2 x1.1) (fun (y8 : Int) => K1 ((IntKind.i64.wrap (18 + IntKind.i64.wrap x1.2.2.2.2.1), (x1.2.1, (x1.2.2.1, (x1.2.2.2.1, (y8, (Bool.false, (Bool.false, (0, 0)))))))))))
 (K1 ((0, (x1.2.1, (x1.2.2.1, (x1.2.2.2.1, (0, (Bool.false, (Bool.false, (0, 0)))))))))))
 (br (Decidable.decide (Go.bits Go.BinOp.and IntKind.u32 x1.1 127 = 19))
 (bindS (g89' N x1) (fun (y9 : Int × Int) => K1 ((y9.1, (x1.2.1, (x1.2.2.1, (x1.2.2.2.1, (y9.2, (Bool.false, (Bool.false, (0, 0)))))))))))
 (br (Decidable.decide (Go.bits Go.BinOp.and IntKind.u32 x1.1 127 = 27))
 (bindS (g90' N x1) (fun (y10 : Int × Int) => K1 ((y10.1, (x1.2.1, (x1.2.2.1, (x1.2.2.2.1, (y10.2, (Bool.false, (Bool.false, (0, 0)))))))))))
 (br (Decidable.decide (Go.bits Go.BinOp.and IntKind.u32 x1.1 127 = 51))
 (bindS (g91' N ) (fun (y11 : List Int × List Int) => bindS (g92' N x1 y11.1 y11.2) (fun (y12 : Int) => K1 ((y12, (x1.2.1, (x1.2.2.1, (x1.2.2.2.1, (0, (Bool.false, (Bool.false, (0, 0))))))))))))
 (br (Decidable.decide (Go.bits Go.BinOp.and IntKind.u32 x1.1 127 = 59))
 (bindS (g93' N ) (fun (y13 : List Int × List Int) => bindS (g92' N x1 y13.1 y13.2) (fun (y14 : Int) => K1 ((y14, (x1.2.1, (x1.2.2.1, (x1.2.2.2.1, (0, (Bool.false, (Bool.false, (0, 0))))))))))))
 (br (Decidable.decide (Go.bits Go.BinOp.and IntKind.u32 x1.1 127 = 15))
 (br (Decidable.decide (x1.2.2.2.2.1 = 0))
 (bindS (g94' N x1.1) (fun (y15 : Int × Int × Int × Int × Int × Bool × Bool × Int × Int) => some y15))
 (K1 ((0, (x1.2.1, (x1.2.2.1, (x1.2.2.2.1, (0, (Bool.false, (Bool.false, (0, 0)))))))))))
 (br (Decidable.decide (Go.bits Go.BinOp.and IntKind.u32 x1.1 127 = 115))
 (jp (fun (y16 : Int × Int × Int × Int × Int × Bool × Bool × Int × Int) => K1 y16)
 (fun K17 => br (Decidable.decide (x1.1 = 115))
 (K17 ((52, (x1.2.1, (x1.2.2.1, (x1.2.2.2.1, (0, (Bool.false, (Bool.false, (0, 0))))))))))
 (br (Decidable.decide (x1.1 = 1048691))
 (K17 ((53, (x1.2.1, (x1.2.2.1, (x1.2.2.2.1, (0, (Bool.false, (Bool.false, (0, 0))))))))))
 (K17 ((0, (x1.2.1, (x1.2.2.1, (x1.2.2.2.1, (0, (Bool.false, (Bool.false, (0, 0)))))))))))))
 (br (Decidable.decide (Go.bits Go.BinOp.and IntKind.u32 x1.1 127 = 47))
 (bindS (g95' N x1) (fun (y18 : Int) => K1 ((y18, (x1.2.1, (x1.2.2.1, (x1.2.2.2.1, (0, (Decidable.decide (Go.bits Go.BinOp.and IntKind.u32 (x1.1.fdiv (2 ^ Min.min 26 IntKind.u32.bits)) 1 = 1), (Decidable.decide (Go.bits Go.BinOp.and IntKind.u32 (x1.1.fdiv (2 ^ Min.min 25 IntKind.u32.bits)) 1 = 1), (0, 0)))))))))))
 (K1 ((0, (x1.2.1, (x1.2.2.1, (x1.2.2.2.1, (0, (Bool.false, (Bool.false, (0, 0)))))))))))))))))))))))) := by kernel_rfl
def F79 (N : Nat) (x1 : (Int × (Int × (Int × (Int × (Int × Int)))))) : Option ((Int × (Int × (Int × (Int × (Int × (Bool × (Bool × (Int × Int))))))))) :=
  jp (fun (y0 : Int × Int × Int × Int × Int × Bool × Bool × Int × Int) => some y0)
 (fun K1 => br (Decidable.decide (Go.bits Go.BinOp.and IntKind.u32 x1.1 127 = 55))
 (bindS (F88 N 4 x1.1) (fun (y2 : Int) => K1 ((1, (x1.2.1, (x1.2.2.1, (x1.2.2.2.1, (y2, (Bool.false, (Bool.false, (0, 0)))))))))))
 (br (Decidable.decide (Go.bits Go.BinOp.and IntKind.u32 x1.1 127 = 23))
 (bindS (F88 N 4 x1.1) (fun (y3 : Int) => K1 ((2, (x1.2.1, (x1.2.2.1, (x1.2.2.2.1, (y3, (Bool.false, (Bool.false, (0, 0)))))))))))
 (br (Decidable.decide (Go.bits Go.BinOp.and IntKind.u32 x1.1 127 = 111))
 (bindS (F88 N 5 x1.1) (fun (y4 : Int) => K1 ((3, (x1.2.1, (x1.2.2.1, (x1.2.2.2.1, (y4, (Bool.false, (Bool.false, (0, 0)))))))))))
 (br (Decidable.decide (Go.bits Go.BinOp.and IntKind.u32 x1.1 127 = 103))
 (br (Decidable.decide (x1.2.2.2.2.1 = 0))
 (bindS (F88 N 1 x1.1) (fun (y5 : Int) => K1 ((4, (x1.2.1, (x1.2.2.1, (x1.2.2.2.1, (y5, (Bool.false, (Bool.false, (0, 0)))))))))))
 (K1 ((0, (x1.2.1, (x1.2.2.1, (x1.2.2.2.1, (0, (Bool.false, (Bool.false, (0, 0)))))))))))
 (br (Decidable.decide (Go.bits Go.BinOp.and IntKind.u32 x1.1 127 = 99))
 (chk (Decidable.decide (0 ≤ x1.2.2.2.2.1) && Decidable.decide (x1.2.2.2.2.1 < (↑8 : Int))) (bindS (F88 N 3 x1.1) (fun (y6 : Int) => K1 (([5, 6, 0, 0, 7, 8, 9, 10].getD x1.2.2.2.2.1.toNat 0, (x1.2.1, (x1.2.2.1, (x1.2.2.2.1, (y6, (Bool.false, (Bool.false, (0, 0))))))))))))
 (br (Decidable.decide (Go.bits Go.BinOp.and IntKind.u32 x1.1 127 = 3))
 (br (Decidable.decide (x1.2.2.2.2.1 < 7))
 (bindS (F88 N 1 x1.1) (fun (y7 : Int) => K1 ((IntKind.i64.wrap (11 + IntKind.i64.wrap x1.2.2.2.2.1), (x1.2.1, (x1.2.2.1, (x1.2.2.2.1, (y7, (Bool.false, (Bool.false, (0, 0)))))))))))
 (K1 ((0, (x1.2.1, (x1.2.2.1, (x1.2.2.2.1, (0, (Bool.false, (Bool.false, (0, 0)))))))))))
 (br (Decidable.decide (Go.bits Go.BinOp.and IntKind.u32 x1.1 127 = 35))
 (br (Decidable.decide (x1.2.2.2.2.1 < 4))
 (bindS (F88 N 2 x1.1) (fun (y8 : Int) => K1 ((IntKind.i64.wrap (18 + IntKind.i64.wrap x1.2.2.2.2.1), (x1.2.1, (x1.2.2.1, (x1.2.2.2.1, (y8, (Bool.false, (Bool.false, (0, 0)))))))))))
 (K1 ((0, (x1.2.1, (x1.2.2.1, (x1.2.2.2.1, (0, (Bool.false, (Bool.false, (0, 0)))))))))))
 (br (Decidable.decide (Go.bits Go.BinOp.and IntKind.u32 x1.1 127 = 19))
 (bindS (F89 N x1) (fun (y9 : Int × Int) => K1 ((y9.1, (x1.2.1, (x1.2.2.1, (x1.2.2.2.1, (y9.2, (Bool.false, (Bool.false, (0, 0)))))))))))
 (br (Decidable.decide (Go.bits Go.BinOp.and IntKind.u32 x1.1 127 = 27))
 (bindS (F90 N x1) (fun (y10 : Int × Int) => K1 ((y10.1, (x1.2.1, (x1.2.2.1, (x1.2.2.2.1, (y10.2, (Bool.false, (Bool.false, (0, 0)))))))))))
 (br (Decidable.decide (Go.bits Go.BinOp.and IntKind.u32 x1.1 127 = 51))
 (bindS (F91 N ) (fun (y11 : List Int × List Int) => bindS (F92 N x1 y11.1 y11.2) (fun (y12 : Int) => K1 ((y12, (x1.2.1, (x1.2.2.1, (x1.2.2.2.1, (0, (Bool.false, (Bool.false, (0, 0))))))))))))
 (br (Decidable.decide (Go.bits Go.BinOp.and IntKind.u32 x1.1 127 = 59))
 (bindS (F93 N ) (fun (y13 : List Int × List Int) => bindS (F92 N x1 y13.1 y13.2) (fun (y14 : Int) => K1 ((y14, (x1.2.1, (x1.2.2.1, (x1.2.2.2.1, (0, (Bool.false, (Bool.false, (0, 0))))))))))))
 (br (Decidable.decide (Go.bits Go.BinOp.and IntKind.u32 x1.1 127 = 15))
 (br (Decidable.decide (x1.2.2.2.2.1 = 0))
 (bindS (F94 N x1.1) (fun (y15 : Int × Int × Int × Int × Int × Bool × Bool × Int × Int) => some y15))
 (K1 ((0, (x1.2.1, (x1.2.2.1, (x1.2.2.2.1, (0, (Bool.false, (Bool.false, (0, 0)))))))))))
 (br (Decidable.decide (Go.bits Go.BinOp.and IntKind.u32 x1.1 127 = 115))
 (jp (fun (y16 : Int × Int × Int × Int × Int × Bool × Bool × Int × Int) => K1 y16)
 (fun K17 => br (Decidable.decide (x1.1 = 115))
 (K17 ((52, (x1.2.1, (x1.2.2.1, (x1.2.2.2.1, (0, (Bool.false, (Bool.false, (0, 0))))))))))
 (br (Decidable.decide (x1.1 = 1048691))
 (K17 ((53, (x1.2.1, (x1.2.2.1, (x1.2.2.2.1, (0, (Bool.false, (Bool.false, (0, 0))))))))))
 (K17 ((0, (x1.2.1, (x1.2.2.1, (x1.2.2.2.1, (0, (Bool.false, (Bool.false, (0, 0)))))))))))))
 (br (Decidable.decide (Go.bits Go.BinOp.and IntKind.u32 x1.1 127 = 47))
 (bindS (F95 N x1) (fun (y18 : Int) => K1 ((y18, (x1.2.1, (x1.2.2.1, (x1.2.2.2.1, (0, (Decidable.decide (Go.bits Go.BinOp.and IntKind.u32 (x1.1.fdiv (2 ^ Min.min 26 IntKind.u32.bits)) 1 = 1), (Decidable.decide (Go.bits Go.BinOp.and IntKind.u32 (x1.1.fdiv (2 ^ Min.min 25 IntKind.u32.bits)) 1 = 1), (0, 0)))))))))))
 (K1 ((0, (x1.2.1, (x1.2.2.1, (x1.2.2.2.1, (0, (Bool.false, (Bool.false, (0, 0))))))))))))))))))))))))
theorem F79_eq (N : Nat) (x1 : (Int × (Int × (Int × (Int × (Int × Int)))))) : g79' N x1 = F79 N x1 := by
  refine (e79 N x1).trans ?_
  simp only [F88_eq, F89_eq, F90_eq, F91_eq, F92_eq, F93_eq, F94_eq, F95_eq, F79]
def g57' (N : Nat) (x1 : Int) : Option (Int) := f57 N (x1)
theorem e57 (N : Nat) (x1 : Int) : g57' N x1 =
  jp (fun (y0 : Bool) => br y0
 (some 0)
 (br (Decidable.decide (x1 ≤ 2))
 (some 1)
 (br (Decidable.decide (x1 ≤ 4))
 (some 2)
 (br (Decidable.decide (x1 ≤ 10))
 (some 3)
 (br (Decidable.decide (x1 ≤ 17))
 (some 4)
 (br (Decidable.decide (x1 ≤ 21))
 (some 5)
 (br (Decidable.decide (x1 ≤ 34))
 (some 6)
 (br (Decidable.decide (x1 ≤ 49))
 (some 7)
 (br (Decidable.decide (x1 ≤ 51))
 (some 8)
 (br (Decidable.decide (x1 ≤ 53))
 (some 9)
 (br (Decidable.decide (x1 ≤ 55))
 (some 10)
 (br (Decidable.decide (x1 ≤ 57))
 (some 11)
 (some 12)))))))))))))
 (fun K1 => br (Decidable.decide (x1 < 1))
 (K1 Bool.true)
 (K1 (Decidable.decide (75 < x1)))) := by kernel_rfl
def F57 (N : Nat) (x1 : Int) : Option (Int) :=
  jp (fun (y0 : Bool) => br y0
 (some 0)
 (br (Decidable.decide (x1 ≤ 2))
 (some 1)
 (br (Decidable.decide (x1 ≤ 4))
 (some 2)
 (br (Decidable.decide (x1 ≤ 10))
 (some 3)
 (br (Decidable.decide (x1 ≤ 17))
 (some 4)
 (br (Decidable.decide (x1 ≤ 21))
 (some 5)
 (br (Decidable.decide (x1 ≤ 34))
 (some 6)
 (br (Decidable.decide (x1 ≤ 49))
 (some 7)
 (br (Decidable.decide (x1 ≤ 51))
 (some 8)
 (br (Decidable.decide (x1 ≤ 53))
 (some 9)
 (br (Decidable.decide (x1 ≤ 55))
 (some 10)
 (br (Decidable.decide (x1 ≤ 57))
 (some 11)
 (some 12)))))))))))))
 (fun K1 => br (Decidable.decide (x1 < 1))
 (K1 Bool.true)
 (K1 (Decidable.decide (75 < x1))))
theorem F57_eq (N : Nat) (x1 : Int) : g57' N x1 = F57 N x1 := by
  refine (e57 N x1).trans ?_
  rfl
def g61' (N : Nat) (x1 : Int) : Option (Int) := f61 N (x1)
theorem e61 (N : Nat) (x1 : Int) : g61' N x1 =
  jp (fun (y0 : Bool) => br y0
 (some 0)
 (some x1))
 (fun K1 => br (Decidable.decide (x1 < 0))
 (K1 Bool.true)
 (K1 (Decidable.decide (31 < x1)))) := by kernel_rfl
def F61 (N : Nat) (x1 : Int) : Option (Int) :=
  jp (fun (y0 : Bool) => br y0
 (some 0)
 (some x1))
 (fun K1 => br (Decidable.decide (x1 < 0))
 (K1 Bool.true)
 (K1 (Decidable.decide (31 < x1))))
theorem F61_eq (N : Nat) (x1 : Int) : g61' N x1 = F61 N x1 := by
  refine (e61 N x1).trans ?_
  rfl
def g40' (N : Nat) (x1 : (Int × (Int × (Int × (Int × (Int × (Bool × (Bool × (Int × Int))))))))) : Option (Int) := f40 N (x1)
theorem e40 (N : Nat) (x1 : (Int × (Int × (Int × (Int × (Int × (Bool × (Bool × (Int × Int))))))))) : g40' N x1 =
  bindS (g57' N x1.1) (fun (y0 : Int) => jp (fun (y1 : Bool) => br y1
 (some 0)
 (bindS (g61' N x1.2.1) (fun (y2 : Int) => some y2)))
 (fun K3 => br (Decidable.decide (y0 = 0))
 (K3 Bool.true)
 (br (Decidable.decide (y0 = 3))
 (K3 Bool.true)
 (br (Decidable.decide (y0 = 5))
 (K3 Bool.true)
 (br (Decidable.decide (y0 = 8))
 (K3 Bool.true)
 (K3 (Decidable.decide (y0 = 9)))))))) := by kernel_rfl
def F40 (N : Nat) (x1 : (Int × (Int × (Int × (Int × (Int × (Bool × (Bool × (Int × Int))))))))) : Option (Int) :=
  bindS (F57 N x1.1) (fun (y0 : Int) => jp (fun (y1 : Bool) => br y1
 (some 0)
 (bindS (F61 N x1.2.1) (fun (y2 : Int) => some y2)))
 (fun K3 => br (Decidable.decide (y0 = 0))
 (K3 Bool.true)
 (br (Decidable.decide (y0 = 3))
 (K3 Bool.true)
 (br (Decidable.decide (y0 = 5))
 (K3 Bool.true)
 (br (Decidable.decide (y0 = 8))
 (K3 Bool.true)
 (K3 (Decidable.decide (y0 = 9))))))))
theorem F40_eq (N : Nat) (x1 : (Int × (Int × (Int × (Int × (Int × (Bool × (Bool × (Int × Int))))))))) : g40' N x1 = F40 N x1 := by
  refine (e40 N x1).trans ?_
  simp only [F57_eq, F61_eq, F40]
def g38' (N : Nat) (x1 : (Int × (Int × (Int × (Int × (Int × (Bool × (Bool × (Int × Int))))))))) : Option (List Int) := f38 N (x1)
theorem e38 (N : Nat) (x1 : (Int × (Int × (Int × (Int × (Int × (Bool × (Bool × (Int × Int))))))))) : g38' N x1 =
  bindS (g57' N x1.1) (fun (y0 : Int) => jp (fun (y1 : List Int) => fixN N (fun again2 (y3 : Int × List Int) => br (Decidable.decide (y3.1 < (↑y1.length : Int)))
 (jp (fun (y4 : List Int) => again2 ((IntKind.i64.wrap (y3.1 + 1), y4)))
 (fun K5 => chk (Decidable.decide (0 ≤ y3.1) && Decidable.decide (y3.1 < (↑y1.length : Int))) (br (!Decidable.decide (y1.getD y3.1.toNat 0 = 0))
 (chk (Decidable.decide ((y3.2.length + [y1.getD y3.1.toNat 0].length) * 8 ≤ lim)) (K5 (y3.2 ++ [y1.getD y3.1.toNat 0])))
 (K5 y3.2))))
 (some y3.2))
 ((0, [])))
 (fun K6 => jp (fun (y7 : Bool) => br y7
 (bindS (g61' N x1.2.2.1) (fun (y8 : Int) => bindS (g61' N x1.2.2.2.1) (fun (y9 : Int) => K6 ([y8, y9]))))
 (jp (fun (y10 : Bool) => br y10
 (bindS (g61' N x1.2.2.1) (fun (y11 : Int) => K6 [y11]))
 (br (Decidable.decide (y0 = 2))
 (br (Decidable.decide (x1.1 = 4))
 (bindS (g61' N x1.2.2.1) (fun (y12 : Int) => K6 [y12]))
 (K6 []))
 (K6 [])))
 (fun K13 => br (Decidable.decide (y0 = 4))
 (K13 Bool.true)
 (br (Decidable.decide (y0 = 6))
 (K13 Bool.true)
 (K13 (Decidable.decide (y0 = 10)))))))
 (fun K14 => br (Decidable.decide (y0 = 3))
 (K14 Bool.true)
 (br (Decidable.decide (y0 = 5))
 (K14 Bool.true)
 (br (Decidable.decide (y0 = 7))
 (K14 Bool.true)
 (br (Decidable.decide (y0 = 11))
 (K14 Bool.true)
 (K14 (Decidable.decide (y0 = 12))))))))) := by kernel_rfl
def F38 (N : Nat) (x1 : (Int × (Int × (Int × (Int × (Int × (Bool × (Bool × (Int × Int))))))))) : Option (List Int) :=
  bindS (F57 N x1.1) (fun (y0 : Int) => jp (fun (y1 : List Int) => fixN N (fun again2 (y3 : Int × List Int) => br (Decidable.decide (y3.1 < (↑y1.length : Int)))
 (jp (fun (y4 : List Int) => again2 ((IntKind.i64.wrap (y3.1 + 1), y4)))
 (fun K5 => chk (Decidable.decide (0 ≤ y3.1) && Decidable.decide (y3.1 < (↑y1.length : Int))) (br (!Decidable.decide (y1.getD y3.1.toNat 0 = 0))
 (chk (Decidable.decide ((y3.2.length + [y1.getD y3.1.toNat 0].length) * 8 ≤ lim)) (K5 (y3.2 ++ [y1.getD y3.1.toNat 0])))
 (K5 y3.2))))
 (some y3.2))
 ((0, [])))
 (fun K6 => jp (fun (y7 : Bool) => br y7
 (bindS (F61 N x1.2.2.1) (fun (y8 : Int) => bindS (F61 N x1.2.2.2.1) (fun (y9 : Int) => K6 ([y8, y9]))))
 (jp (fun (y10 : Bool) => br y10
 (bindS (F61 N x1.2.2.1) (fun (y11 : Int) => K6 [y11]))
 (br (Decidable.decide (y0 = 2))
 (br (Decidable.decide (x1.1 = 4))
 (bindS (F61 N x1.2.2.1) (fun (y12 : Int) => K6 [y12]))
 (K6 []))
 (K6 [])))
 (fun K13 => br (Decidable.decide (y0 = 4))
 (K13 Bool.true)
 (br (Decidable.decide (y0 = 6))
 (K13 Bool.true)
 (K13 (Decidable.decide (y0 = 10)))))))
 (fun K14 => br (Decidable.decide (y0 = 3))
 (K14 Bool.true)
 (br (Decidable.decide (y0 = 5))
 (K14 Bool.true)
 (br (Decidable.decide (y0 = 7))
 (K14 Bool.true)
 (br (Decidable.decide (y0 = 11))
 (K14 Bool.true)
 (K14 (Decidable.decide (y0 = 12)))))))))
theorem F38_eq (N : Nat) (x1 : (Int × (Int × (Int × (Int × (Int × (Bool × (Bool × (Int × Int))))))))) : g38' N x1 = F38 N x1 := by
  refine (e38 N x1).trans ?_
  simp only [F57_eq, F61_eq, F38]
def g54' (N : Nat) (x1 : (Int × (Int × (Int × (Int × (Int × (Bool × (Bool × (Int × Int))))))))) : Option ((Int × (Int × (Int × (Int × (Int × (Bool × (Bool × (Int × Int))))))))) := f54 N (x1)
theorem e54 (N : Nat) (x1 : (Int × (Int × (Int × (Int × (Int × (Bool × (Bool × (Int × Int))))))))) : g54' N x1 =
  jp (fun (y0 : Int × Int × Int × Int × Int × Bool × Bool × Int × Int) => bindS (g38' N ((x1.1, 1, 2, 3, 0, Bool.false, Bool.false, 0, 0))) (fun (y1 : List Int) => fixN N (fun again2 (y3 : Int × List Bool) => br (Decidable.decide (y3.1 < (↑y1.length : Int)))
 (chk (Decidable.decide (0 ≤ y3.1) && Decidable.decide (y3.1 < (↑y1.length : Int))) (chk (Decidable.decide (0 ≤ y1.getD y3.1.toNat 0) && Decidable.decide (y1.getD y3.1.toNat 0 < (↑4 : Int))) (again2 ((IntKind.i64.wrap (y3.1 + 1), setD Bool.false y3.2 (Int.toNat (y1.getD y3.1.toNat 0)) Bool.true)))))
 (jp (fun (y4 : Int × Int × Int × Int × Int × Bool × Bool × Int × Int) => jp (fun (y5 : Int × Int × Int × Int × Int × Bool × Bool × Int × Int) => some y5)
 (fun K6 => br (!y3.2.getD 3 Bool.false)
 (K6 ((y4.1, (y4.2.1, (y4.2.2.1, (0, y4.2.2.2.2))))))
 (K6 y4)))
 (fun K7 => br (!y3.2.getD 2 Bool.false)
 (K7 ((y0.1, (y0.2.1, (0, y0.2.2.2)))))
 (K7 y0))))
 ((0, [Bool.false, Bool.false, Bool.false, Bool.false]))))
 (fun K8 => bindS (g40' N ((x1.1, 1, 2, 3, 0, Bool.false, Bool.false, 0, 0))) (fun (y9 : Int) => br (Decidable.decide (y9 = 0))
 (K8 ((x1.1, (0, x1.2.2))))
 (K8 x1))) := by kernel_rfl
def F54 (N : Nat) (x1 : (Int × (Int × (Int × (Int × (Int × (Bool × (Bool × (Int × Int))))))))) : Option ((Int × (Int × (Int × (Int × (Int × (Bool × (Bool × (Int × Int))))))))) :=
  jp (fun (y0 : Int × Int × Int × Int × Int × Bool × Bool × Int × Int) => bindS (F38 N ((x1.1, 1, 2, 3, 0, Bool.false, Bool.false, 0, 0))) (fun (y1 : List Int) => fixN N (fun again2 (y3 : Int × List Bool) => br (Decidable.decide (y3.1 < (↑y1.length : Int)))
 (chk (Decidable.decide (0 ≤ y3.1) && Decidable.decide (y3.1 < (↑y1.length : Int))) (chk (Decidable.decide (0 ≤ y1.getD y3.1.toNat 0) && Decidable.decide (y1.getD y3.1.toNat 0 < (↑4 : Int))) (again2 ((IntKind.i64.wrap (y3.1 + 1), setD Bool.false y3.2 (Int.toNat (y1.getD y3.1.toNat 0)) Bool.true)))))
 (jp (fun (y4 : Int × Int × Int × Int × Int × Bool × Bool × Int × Int) => jp (fun (y5 : Int × Int × Int × Int × Int × Bool × Bool × Int × Int) => some y5)
 (fun K6 => br (!y3.2.getD 3 Bool.false)
 (K6 ((y4.1, (y4.2.1, (y4.2.2.1, (0, y4.2.2.2.2))))))
 (K6 y4)))
 (fun K7 => br (!y3.2.getD 2 Bool.false)
 (K7 ((y0.1, (y0.2.1, (0, y0.2.2.2)))))
 (K7 y0))))
 ((0, [Bool.false, Bool.false, Bool.false, Bool.false]))))
 (fun K8 => bindS (F40 N ((x1.1, 1, 2, 3, 0, Bool.false, Bool.false, 0, 0))) (fun (y9 : Int) => br (Decidable.decide (y9 = 0))
 (K8 ((x1.1, (0, x1.2.2))))
 (K8 x1)))
theorem F54_eq (N : Nat) (x1 : (Int × (Int × (Int × (Int × (Int × (Bool × (Bool × (Int × Int))))))))) : g54' N x1 = F54 N x1 := by
  refine (e54 N x1).trans ?_
  simp only [F38_eq, F40_eq, F54]
def g55' (N : Nat) (x1 : Int) : Option ((Int × (Int × (Int × (Int × (Int × (Bool × (Bool × (Int × Int)))))))) × Int) := f55 N (x1)
theorem e55 (N : Nat) (x1 : Int) : g55' N x1 =
  bindS (g80' N x1) (fun (y0 : Int × Int × Int × Int × Int × Int) => bindS (g79' N y0) (fun (y1 : Int × Int × Int × Int × Int × Bool × Bool × Int × Int) => br (Decidable.decide (y1.1 = 0))
 (some (((0, (0, (0, (0, (0, (Bool.false, (Bool.false, (0, 0)))))))), 2)))
 (bindS (g54' N y1) (fun (y2 : Int × Int × Int × Int × Int × Bool × Bool × Int × Int) => some ((y2, 0)))))) := by kernel_rfl
def F55 (N : Nat) (x1 : Int) : Option ((Int × (Int × (Int × (Int × (Int × (Bool × (Bool × (Int × Int)))))))) × Int) :=
  bindS (F80 N x1) (fun (y0 : Int × Int × Int × Int × Int × Int) => bindS (F79 N y0) (fun (y1 : Int × Int × Int × Int × Int × Bool × Bool × Int × Int) => br (Decidable.decide (y1.1 = 0))
 (some (((0, (0, (0, (0, (0, (Bool.false, (Bool.false, (0, 0)))))))), 2)))
 (bindS (F54 N y1) (fun (y2 : Int × Int × Int × Int × Int × Bool × Bool × Int × Int) => some ((y2, 0))))))
theorem F55_eq (N : Nat) (x1 : Int) : g55' N x1 = F55 N x1 := by
  refine (e55 N x1).trans ?_
  simp only [F54_eq, F79_eq, F80_eq, F55]
def g49' (N : Nat) (x1 : Int) : Option (Int) := f49 N (x1)
theorem e49 (N : Nat) (x1 : Int) : g49' N x1 =
  bindS (g57' N x1) (fun (y0 : Int) => br (Decidable.decide (y0 = 1))
 (br (Decidable.decide (x1 = 1))
 (some 55)
 (some 23))
 (br (Decidable.decide (y0 = 2))
 (br (Decidable.decide (x1 = 3))
 (some 111)
 (some 103))
 (br (Decidable.decide (y0 = 3))
 (some 99)
 (br (Decidable.decide (y0 = 4))
 (some 3)
 (br (Decidable.decide (y0 = 5))
 (some 35)
 (br (Decidable.decide (y0 = 6))
 (br (Decidable.decide (31 ≤ x1))
 (some 27)
 (some 19))
 (br (Decidable.decide (y0 = 7))
 (br (Decidable.decide (45 ≤ x1))
 (some 59)
 (some 51))
 (br (Decidable.decide (y0 = 8))
 (some 15)
 (br (Decidable.decide (y0 = 9))
 (some 115)
 (br (Decidable.decide (y0 = 0))
 (some 0)
 (some 47))))))))))) := by kernel_rfl
def F49 (N : Nat) (x1 : Int) : Option (Int) :=
  bindS (F57 N x1) (fun (y0 : Int) => br (Decidable.decide (y0 = 1))
 (br (Decidable.decide (x1 = 1))
 (some 55)
 (some 23))
 (br (Decidable.decide (y0 = 2))
 (br (Decidable.decide (x1 = 3))
 (some 111)
 (some 103))
 (br (Decidable.decide (y0 = 3))
 (some 99)
 (br (Decidable.decide (y0 = 4))
 (some 3)
 (br (Decidable.decide (y0 = 5))
 (some 35)
 (br (Decidable.decide (y0 = 6))
 (br (Decidable.decide (31 ≤ x1))
 (some 27)
 (some 19))
 (br (Decidable.decide (y0 = 7))
 (br (Decidable.decide (45 ≤ x1))
 (some 59)
 (some 51))
 (br (Decidable.decide (y0 = 8))
 (some 15)
 (br (Decidable.decide (y0 = 9))
 (some 115)
 (br (Decidable.decide (y0 = 0))
 (some 0)
 (some 47)))))))))))
theorem F49_eq (N : Nat) (x1 : Int) : g49' N x1 = F49 N x1 := by
  refine (e49 N x1).trans ?_
  simp only [F57_eq, F49]
def g46' (N : Nat)  : Option (Bool) := f46 N ()
theorem e46 (N : Nat)  : g46' N  =
  bindS (g55' N 10485907) (fun (y0 : (Int × Int × Int × Int × Int × Bool × Bool × Int × Int) × Int) => bindS (g55' N 0) (fun (y1 : (Int × Int × Int × Int × Int × Bool × Bool × Int × Int) × Int) => jp (fun (y2 : Bool) => some y2)
 (fun K3 => br (Decidable.decide (y0.2 = 0))
 (br (Decidable.decide (y1.2 = 2))
 (br (((Ty.int IntKind.i64).pair
      ((Ty.int IntKind.i64).pair
        ((Ty.int IntKind.i64).pair
          ((Ty.int IntKind.i64).pair
            ((Ty.int IntKind.i64).pair
              (Ty.bool.pair
                (Ty.bool.pair ((Ty.int IntKind.i64).pair (Ty.int IntKind.i64))))))))).eq
  y0.1 (22, 1, 0, 0, 10, Bool.false, Bool.false, 0, 0))
 (bindS (g49' N 54) (fun (y4 : Int) => K3 (Decidable.decide (y4 = 47))))
 (K3 Bool.false))
 (K3 Bool.false))
 (K3 Bool.false)))) := by kernel_rfl
def F46 (N : Nat)  : Option (Bool) :=
  bindS (F55 N 10485907) (fun (y0 : (Int × Int × Int × Int × Int × Bool × Bool × Int × Int) × Int) => bindS (F55 N 0) (fun (y1 : (Int × Int × Int × Int × Int × Bool × Bool × Int × Int) × Int) => jp (fun (y2 : Bool) => some y2)
 (fun K3 => br (Decidable.decide (y0.2 = 0))
 (br (Decidable.decide (y1.2 = 2))
 (br (((Ty.int IntKind.i64).pair
      ((Ty.int IntKind.i64).pair
        ((Ty.int IntKind.i64).pair
          ((Ty.int IntKind.i64).pair
            ((Ty.int IntKind.i64).pair
              (Ty.bool.pair
                (Ty.bool.pair ((Ty.int IntKind.i64).pair (Ty.int IntKind.i64))))))))).eq
  y0.1 (22, 1, 0, 0, 10, Bool.false, Bool.false, 0, 0))
 (bindS (F49 N 54) (fun (y4 : Int) => K3 (Decidable.decide (y4 = 47))))
 (K3 Bool.false))
 (K3 Bool.false))
 (K3 Bool.false))))
theorem F46_eq (N : Nat)  : g46' N  = F46 N  := by
  refine (e46 N ).trans ?_
  simp only [F49_eq, F55_eq, F46]
def g63' (N : Nat) (x1 : Int) : Option (Int) := f63 N (x1)
theorem e63 (N : Nat) (x1 : Int) : g63' N x1 =
  br (Decidable.decide (x1 < 1))
 (some 0)
 (fixN N (fun again0 (y1 : Int × Int) => br (Decidable.decide (y1.2 < (↑[2, 2, 6, 7, 4, 13, 15, 2, 2, 2, 2, 18].length : Int)))
 (chk (Decidable.decide (0 ≤ y1.2) && Decidable.decide (y1.2 < (↑[2, 2, 6, 7, 4, 13, 15, 2, 2, 2, 2, 18].length : Int))) (br (Decidable.decide (y1.1 ≤ [2, 2, 6, 7, 4, 13, 15, 2, 2, 2, 2, 18].getD y1.2.toNat 0))
 (some (IntKind.i64.wrap (y1.2 + 1)))
 (chk (Decidable.decide (0 ≤ y1.2) && Decidable.decide (y1.2 < (↑[2, 2, 6, 7, 4, 13, 15, 2, 2, 2, 2, 18].length : Int))) (again0 ((IntKind.i64.wrap (y1.1 - [2, 2, 6, 7, 4, 13, 15, 2, 2, 2, 2, 18].getD y1.2.toNat 0), IntKind.i64.wrap (y1.2 + 1)))))))
 (some 0))
 ((x1, 0))) := by kernel_rfl
def F63 (N : Nat) (x1 : Int) : Option (Int) :=
  br (Decidable.decide (x1 < 1))
 (some 0)
 (fixN N (fun again0 (y1 : Int × Int) => br (Decidable.decide (y1.2 < (↑[2, 2, 6, 7, 4, 13, 15, 2, 2, 2, 2, 18].length : Int)))
 (chk (Decidable.decide (0 ≤ y1.2) && Decidable.decide (y1.2 < (↑[2, 2, 6, 7, 4, 13, 15, 2, 2, 2, 2, 18].length : Int))) (br (Decidable.decide (y1.1 ≤ [2, 2, 6, 7, 4, 13, 15, 2, 2, 2, 2, 18].getD y1.2.toNat 0))
 (some (IntKind.i64.wrap (y1.2 + 1)))
 (chk (Decidable.decide (0 ≤ y1.2) && Decidable.decide (y1.2 < (↑[2, 2, 6, 7, 4, 13, 15, 2, 2, 2, 2, 18].length : Int))) (again0 ((IntKind.i64.wrap (y1.1 - [2, 2, 6, 7, 4, 13, 15, 2, 2, 2, 2, 18].getD y1.2.toNat 0), IntKind.i64.wrap (y1.2 + 1)))))))
 (some 0))
 ((x1, 0)))
theorem F63_eq (N : Nat) (x1 : Int) : g63' N x1 = F63 N x1 := by
  refine (e63 N x1).trans ?_
  rfl
def g25' (N : Nat)  : Option (List (List UInt8)) := f25 N ()
theorem e25 (N : Nat)  : g25' N  =
  some ([[108, 117, 105], [97, 117, 105, 112, 99], [106, 97, 108], [106, 97, 108, 114], [98, 101, 113], [98, 110, 101],
  [98, 108, 116], [98, 103, 101], [98, 108, 116, 117], [98, 103, 101, 117], [108, 98], [108, 104], [108, 119],
  [108, 100], [108, 98, 117], [108, 104, 117], [108, 119, 117], [115, 98], [115, 104], [115, 119], [115, 100],
  [97, 100, 100, 105], [115, 108, 116, 105], [115, 108, 116, 105, 117], [120, 111, 114, 105], [111, 114, 105],
  [97, 110, 100, 105], [115, 108, 108, 105], [115, 114, 108, 105], [115, 114, 97, 105], [97, 100, 100, 105, 119],
  [115, 108, 108, 105, 119], [115, 114, 108, 105, 119], [115, 114, 97, 105, 119], [97, 100, 100], [115, 117, 98],
  [115, 108, 108], [115, 108, 116], [115, 108, 116, 117], [120, 111, 114], [115, 114, 108], [115, 114, 97], [111, 114],
  [97, 110, 100], [97, 100, 100, 119], [115, 117, 98, 119], [115, 108, 108, 119], [115, 114, 108, 119],
  [115, 114, 97, 119], [102, 101, 110, 99, 101], [102, 101, 110, 99, 101, 46, 116, 115, 111], [101, 99, 97, 108, 108],
  [101, 98, 114, 101, 97, 107], [108, 114, 46, 119], [108, 114, 46, 100], [115, 99, 46, 119], [115, 99, 46, 100],
  [97, 109, 111, 115, 119, 97, 112, 46, 119], [97, 109, 111, 97, 100, 100, 46, 119],
  [97, 109, 111, 120, 111, 114, 46, 119], [97, 109, 111, 97, 110, 100, 46, 119], [97, 109, 111, 111, 114, 46, 119],
  [97, 109, 111, 109, 105, 110, 46, 119], [97, 109, 111, 109, 97, 120, 46, 119],
  [97, 109, 111, 109, 105, 110, 117, 46, 119], [97, 109, 111, 109, 97, 120, 117, 46, 119],
  [97, 109, 111, 115, 119, 97, 112, 46, 100], [97, 109, 111, 97, 100, 100, 46, 100],
  [97, 109, 111, 120, 111, 114, 46, 100], [97, 109, 111, 97, 110, 100, 46, 100], [97, 109, 111, 111, 114, 46, 100],
  [97, 109, 111, 109, 105, 110, 46, 100], [97, 109, 111, 109, 97, 120, 46, 100],
  [97, 109, 111, 109, 105, 110, 117, 46, 100], [97, 109, 111, 109, 97, 120, 117, 46, 100]]) := by kernel_rfl
def F25 (N : Nat)  : Option (List (List UInt8)) :=
  some ([[108, 117, 105], [97, 117, 105, 112, 99], [106, 97, 108], [106, 97, 108, 114], [98, 101, 113], [98, 110, 101],
  [98, 108, 116], [98, 103, 101], [98, 108, 116, 117], [98, 103, 101, 117], [108, 98], [108, 104], [108, 119],
  [108, 100], [108, 98, 117], [108, 104, 117], [108, 119, 117], [115, 98], [115, 104], [115, 119], [115, 100],
  [97, 100, 100, 105], [115, 108, 116, 105], [115, 108, 116, 105, 117], [120, 111, 114, 105], [111, 114, 105],
  [97, 110, 100, 105], [115, 108, 108, 105], [115, 114, 108, 105], [115, 114, 97, 105], [97, 100, 100, 105, 119],
  [115, 108, 108, 105, 119], [115, 114, 108, 105, 119], [115, 114, 97, 105, 119], [97, 100, 100], [115, 117, 98],
  [115, 108, 108], [115, 108, 116], [115, 108, 116, 117], [120, 111, 114], [115, 114, 108], [115, 114, 97], [111, 114],
  [97, 110, 100], [97, 100, 100, 119], [115, 117, 98, 119], [115, 108, 108, 119], [115, 114, 108, 119],
  [115, 114, 97, 119], [102, 101, 110, 99, 101], [102, 101, 110, 99, 101, 46, 116, 115, 111], [101, 99, 97, 108, 108],
  [101, 98, 114, 101, 97, 107], [108, 114, 46, 119], [108, 114, 46, 100], [115, 99, 46, 119], [115, 99, 46, 100],
  [97, 109, 111, 115, 119, 97, 112, 46, 119], [97, 109, 111, 97, 100, 100, 46, 119],
  [97, 109, 111, 120, 111, 114, 46, 119], [97, 109, 111, 97, 110, 100, 46, 119], [97, 109, 111, 111, 114, 46, 119],
  [97, 109, 111, 109, 105, 110, 46, 119], [97, 109, 111, 109, 97, 120, 46, 119],
  [97, 109, 111, 109, 105, 110, 117, 46, 119], [97, 109, 111, 109, 97, 120, 117, 46, 119],
  [97, 109, 111, 115, 119, 97, 112, 46, 100], [97, 109, 111, 97, 100, 100, 46, 100],
  [97, 109, 111, 120, 111, 114, 46, 100], [97, 109, 111, 97, 110, 100, 46, 100], [97, 109, 111, 111, 114, 46, 100],
  [97, 109, 111, 109, 105, 110, 46, 100], [97, 109, 111, 109, 97, 120, 46, 100],
  [97, 109, 111, 109, 105, 110, 117, 46, 100], [97, 109, 111, 109, 97, 120, 117, 46, 100]])
theorem F25_eq (N : Nat)  : g25' N  = F25 N  := by
  refine (e25 N ).trans ?_
  rfl
def g68' (N : Nat) (x1 : Int) : Option (List UInt8) := f68 N (x1)
theorem e68 (N : Nat) (x1 : Int) : g68' N x1 =
  bindS (g25' N ) (fun (y0 : List (List UInt8)) => jp (fun (y1 : Bool) => br y1
 (some [])
 (chk (Decidable.decide (0 ≤ IntKind.i64.wrap (x1 - 1)) &&
  Decidable.decide (IntKind.i64.wrap (x1 - 1) < (↑y0.length : Int))) (some (y0.getD (IntKind.i64.wrap (x1 - 1)).toNat []))))
 (fun K2 => br (Decidable.decide (x1 < 1))
 (K2 Bool.true)
 (K2 (Decidable.decide ((↑y0.length : Int) < x1))))) := by kernel_rfl
def F68 (N : Nat) (x1 : Int) : Option (List UInt8) :=
  bindS (F25 N ) (fun (y0 : List (List UInt8)) => jp (fun (y1 : Bool) => br y1
 (some [])
 (chk (Decidable.decide (0 ≤ IntKind.i64.wrap (x1 - 1)) &&
  Decidable.decide (IntKind.i64.wrap (x1 - 1) < (↑y0.length : Int))) (some (y0.getD (IntKind.i64.wrap (x1 - 1)).toNat []))))
 (fun K2 => br (Decidable.decide (x1 < 1))
 (K2 Bool.true)
 (K2 (Decidable.decide ((↑y0.length : Int) < x1)))))
theorem F68_eq (N : Nat) (x1 : Int) : g68' N x1 = F68 N x1 := by
  refine (e68 N x1).trans ?_
  simp only [F25_eq, F68]
def g48' (N : Nat) (x1 : Int) : Option (Int) := f48 N (x1)
theorem e48 (N : Nat) (x1 : Int) : g48' N x1 =
  bindS (g68' N x1) (fun (y0 : List UInt8) => bindS (g63' N x1) (fun (y1 : Int) => br (Decidable.decide (y1 = 0))
 (some 0)
 (chk (Decidable.decide (0 ≤ IntKind.i64.wrap ((↑y0.length : Int) - 1)) &&
  Decidable.decide (IntKind.i64.wrap ((↑y0.length : Int) - 1) < (↑y0.length : Int))) (br (y0 == [108, 117, 105])
 (some 55)
 (br (y0 == [97, 117, 105, 112, 99])
 (some 23)
 (br (y0 == [106, 97, 108])
 (some 111)
 (br (y0 == [106, 97, 108, 114])
 (some 103)
 (br (Decidable.decide (y1 = 3))
 (some 99)
 (br (Decidable.decide (y1 = 4))
 (some 3)
 (br (Decidable.decide (y1 = 5))
 (some 35)
 (jp (fun (y2 : Bool) => br y2
 (some 27)
 (br (Decidable.decide (y1 = 6))
 (some 19)
 (jp (fun (y3 : Bool) => br y3
 (some 59)
 (br (Decidable.decide (y1 = 7))
 (some 51)
 (br (Decidable.decide (y1 = 8))
 (some 15)
 (br (Decidable.decide (y1 = 9))
 (some 115)
 (some 47)))))
 (fun K4 => br (Decidable.decide (y1 = 7))
 (K4 (Decidable.decide ((↑(y0.getD (IntKind.i64.wrap ((↑y0.length : Int) - 1)).toNat 0).toNat : Int) = 119)))
 (K4 Bool.false)))))
 (fun K5 => br (Decidable.decide (y1 = 6))
 (K5 (Decidable.decide ((↑(y0.getD (IntKind.i64.wrap ((↑y0.length : Int) - 1)).toNat 0).toNat : Int) = 119)))
 (K5 Bool.false))))))))))))) := by kernel_rfl
def F48 (N : Nat) (x1 : Int) : Option (Int) :=
  bindS (F68 N x1) (fun (y0 : List UInt8) => bindS (F63 N x1) (fun (y1 : Int) => br (Decidable.decide (y1 = 0))
 (some 0)
 (chk (Decidable.decide (0 ≤ IntKind.i64.wrap ((↑y0.length : Int) - 1)) &&
  Decidable.decide (IntKind.i64.wrap ((↑y0.length : Int) - 1) < (↑y0.length : Int))) (br (y0 == [108, 117, 105])
 (some 55)
 (br (y0 == [97, 117, 105, 112, 99])
 (some 23)
 (br (y0 == [106, 97, 108])
 (some 111)
 (br (y0 == [106, 97, 108, 114])
 (some 103)
 (br (Decidable.decide (y1 = 3))
 (some 99)
 (br (Decidable.decide (y1 = 4))
 (some 3)
 (br (Decidable.decide (y1 = 5))
 (some 35)
 (jp (fun (y2 : Bool) => br y2
 (some 27)
 (br (Decidable.decide (y1 = 6))
 (some 19)
 (jp (fun (y3 : Bool) => br y3
 (some 59)
 (br (Decidable.decide (y1 = 7))
 (some 51)
 (br (Decidable.decide (y1 = 8))
 (some 15)
 (br (Decidable.decide (y1 = 9))
 (some 115)
 (some 47)))))
 (fun K4 => br (Decidable.decide (y1 = 7))
 (K4 (Decidable.decide ((↑(y0.getD (IntKind.i64.wrap ((↑y0.length : Int) - 1)).toNat 0).toNat : Int) = 119)))
 (K4 Bool.false)))))
 (fun K5 => br (Decidable.decide (y1 = 6))
 (K5 (Decidable.decide ((↑(y0.getD (IntKind.i64.wrap ((↑y0.length : Int) - 1)).toNat 0).toNat : Int) = 119)))
 (K5 Bool.false)))))))))))))
theorem F48_eq (N : Nat) (x1 : Int) : g48' N x1 = F48 N x1 := by
  refine (e48 N x1).trans ?_
  simp only [F63_eq, F68_eq, F48]
def g50' (N : Nat) (x1 : Int) : Option (Int) := f50 N (x1)
theorem e50 (N : Nat) (x1 : Int) : g50' N x1 =
  bindS (g63' N x1) (fun (y0 : Int) => bindS (g68' N x1) (fun (y1 : List UInt8) => br (Decidable.decide (y0 = 3))
 (chk (Decidable.decide (0 ≤ IntKind.i64.wrap (x1 - 5)) &&
  Decidable.decide (IntKind.i64.wrap (x1 - 5) < (↑[0, 1, 4, 5, 6, 7].length : Int))) (some ([0, 1, 4, 5, 6, 7].getD (IntKind.i64.wrap (x1 - 5)).toNat 0)))
 (br (Decidable.decide (y0 = 4))
 (some (IntKind.u32.wrap (IntKind.i64.wrap (x1 - 11))))
 (br (Decidable.decide (y0 = 5))
 (some (IntKind.u32.wrap (IntKind.i64.wrap (x1 - 18))))
 (jp (fun (y2 : Bool) => br y2
 (chk (Decidable.decide (0 ≤ IntKind.i64.wrap ((↑y1.length : Int) - 1)) &&
  Decidable.decide (IntKind.i64.wrap ((↑y1.length : Int) - 1) < (↑y1.length : Int))) (br (Decidable.decide ((↑(y1.getD (IntKind.i64.wrap ((↑y1.length : Int) - 1)).toNat 0).toNat : Int) = 119))
 (some 2)
 (some 3)))
 (jp (fun (y3 : Bool) => br y3
 (some 0)
 (jp (fun (y4 : Bool) => br y4
 (some 1)
 (jp (fun (y5 : Bool) => br y5
 (some 2)
 (jp (fun (y6 : Bool) => br y6
 (some 3)
 (jp (fun (y7 : Bool) => br y7
 (some 4)
 (jp (fun (y8 : Bool) => br y8
 (some 5)
 (jp (fun (y9 : Bool) => br y9
 (some 6)
 (jp (fun (y10 : Bool) => br y10
 (some 7)
 (some 0))
 (fun K11 => br (y1 == [97, 110, 100])
 (K11 Bool.true)
 (K11 (y1 == [97, 110, 100, 105])))))
 (fun K12 => br (y1 == [111, 114])
 (K12 Bool.true)
 (K12 (y1 == [111, 114, 105])))))
 (fun K13 => br (y1 == [115, 114, 108])
 (K13 Bool.true)
 (br (y1 == [115, 114, 108, 105])
 (K13 Bool.true)
 (br (y1 == [115, 114, 108, 119])
 (K13 Bool.true)
 (br (y1 == [115, 114, 108, 105, 119])
 (K13 Bool.true)
 (br (y1 == [115, 114, 97])
 (K13 Bool.true)
 (br (y1 == [115, 114, 97, 105])
 (K13 Bool.true)
 (br (y1 == [115, 114, 97, 119])
 (K13 Bool.true)
 (K13 (y1 == [115, 114, 97, 105, 119])))))))))))
 (fun K14 => br (y1 == [120, 111, 114])
 (K14 Bool.true)
 (K14 (y1 == [120, 111, 114, 105])))))
 (fun K15 => br (y1 == [115, 108, 116, 117])
 (K15 Bool.true)
 (K15 (y1 == [115, 108, 116, 105, 117])))))
 (fun K16 => br (y1 == [115, 108, 116])
 (K16 Bool.true)
 (K16 (y1 == [115, 108, 116, 105])))))
 (fun K17 => br (y1 == [115, 108, 108])
 (K17 Bool.true)
 (br (y1 == [115, 108, 108, 105])
 (K17 Bool.true)
 (br (y1 == [115, 108, 108, 119])
 (K17 Bool.true)
 (K17 (y1 == [115, 108, 108, 105, 119])))))))
 (fun K18 => br (!Decidable.decide (y0 = 6))
 (K18 (!Decidable.decide (y0 = 7)))
 (K18 Bool.false))))
 (fun K19 => br (Decidable.decide (y0 = 10))
 (K19 Bool.true)
 (br (Decidable.decide (y0 = 11))
 (K19 Bool.true)
 (K19 (Decidable.decide (y0 = 12)))))))))) := by kernel_rfl
def F50 (N : Nat) (x1 : Int) : Option (Int) :=
  bindS (F63 N x1) (fun (y0 : Int) => bindS (F68 N x1) (fun (y1 : List UInt8) => br (Decidable.decide (y0 = 3))
 (chk (Decidable.decide (0 ≤ IntKind.i64.wrap (x1 - 5)) &&
  Decidable.decide (IntKind.i64.wrap (x1 - 5) < (↑[0, 1, 4, 5, 6, 7].length : Int))) (some ([0, 1, 4, 5, 6, 7].getD (IntKind.i64.wrap (x1 - 5)).toNat 0)))
 (br (Decidable.decide (y0 = 4))
 (some (IntKind.u32.wrap (IntKind.i64.wrap (x1 - 11))))
 (br (Decidable.decide (y0 = 5))
 (some (IntKind.u32.wrap (IntKind.i64.wrap (x1 - 18))))
 (jp (fun (y2 : Bool) => br y2
 (chk (Decidable.decide (0 ≤ IntKind.i64.wrap ((↑y1.length : Int) - 1)) &&
  Decidable.decide (IntKind.i64.wrap ((↑y1.length : Int) - 1) < (↑y1.length : Int))) (br (Decidable.decide ((↑(y1.getD (IntKind.i64.wrap ((↑y1.length : Int) - 1)).toNat 0).toNat : Int) = 119))
 (some 2)
 (some 3)))
 (jp (fun (y3 : Bool) => br y3
 (some 0)
 (jp (fun (y4 : Bool) => br y4
 (some 1)
 (jp (fun (y5 : Bool) => br y5
 (some 2)
 (jp (fun (y6 : Bool) => br y6
 (some 3)
 (jp (fun (y7 : Bool) => br y7
 (some 4)
 (jp (fun (y8 : Bool) => br y8
 (some 5)
 (jp (fun (y9 : Bool) => br y9
 (some 6)
 (jp (fun (y10 : Bool) => br y10
 (some 7)
 (some 0))
 (fun K11 => br (y1 == [97, 110, 100])
 (K11 Bool.true)
 (K11 (y1 == [97, 110, 100, 105])))))
 (fun K12 => br (y1 == [111, 114])
 (K12 Bool.true)
 (K12 (y1 == [111, 114, 105])))))
 (fun K13 => br (y1 == [115, 114, 108])
 (K13 Bool.true)
 (br (y1 == [115, 114, 108, 105])
 (K13 Bool.true)
 (br (y1 == [115, 114, 108, 119])
 (K13 Bool.true)
 (br (y1 == [115, 114, 108, 105, 119])
 (K13 Bool.true)
 (br (y1 == [115, 114, 97])
 (K13 Bool.true)
 (br (y1 == [115, 114, 97, 105])
 (K13 Bool.true)
 (br (y1 == [115, 114, 97, 119])
 (K13 Bool.true)
 (K13 (y1 == [115, 114, 97, 105, 119])))))))))))
 (fun K14 => br (y1 == [120, 111, 114])
 (K14 Bool.true)
 (K14 (y1 == [120, 111, 114, 105])))))
 (fun K15 => br (y1 == [115, 108, 116, 117])
 (K15 Bool.true)
 (K15 (y1 == [115, 108, 116, 105, 117])))))
 (fun K16 => br (y1 == [115, 108, 116])
 (K16 Bool.true)
 (K16 (y1 == [115, 108, 116, 105])))))
 (fun K17 => br (y1 == [115, 108, 108])
 (K17 Bool.true)
 (br (y1 == [115, 108, 108, 105])
 (K17 Bool.true)
 (br (y1 == [115, 108, 108, 119])
 (K17 Bool.true)
 (K17 (y1 == [115, 108, 108, 105, 119])))))))
 (fun K18 => br (!Decidable.decide (y0 = 6))
 (K18 (!Decidable.decide (y0 = 7)))
 (K18 Bool.false))))
 (fun K19 => br (Decidable.decide (y0 = 10))
 (K19 Bool.true)
 (br (Decidable.decide (y0 = 11))
 (K19 Bool.true)
 (K19 (Decidable.decide (y0 = 12))))))))))
theorem F50_eq (N : Nat) (x1 : Int) : g50' N x1 = F50 N x1 := by
  refine (e50 N x1).trans ?_
  simp only [F63_eq, F68_eq, F50]
def g99' (N : Nat) (x1 : Int) : Option (Bool) := f99 N (x1)
theorem e99 (N : Nat) (x1 : Int) : g99' N x1 =
  bindS (g68' N x1) (fun (y0 : List UInt8) => jp (fun (y1 : Bool) => some y1)
 (fun K2 => br (y0 == [115, 117, 98])
 (K2 Bool.true)
 (br (y0 == [115, 117, 98, 119])
 (K2 Bool.true)
 (br (y0 == [115, 114, 97])
 (K2 Bool.true)
 (br (y0 == [115, 114, 97, 105])
 (K2 Bool.true)
 (br (y0 == [115, 114, 97, 119])
 (K2 Bool.true)
 (K2 (y0 == [115, 114, 97, 105, 119])))))))) := by kernel_rfl
def F99 (N : Nat) (x1 : Int) : Option (Bool) :=
  bindS (F68 N x1) (fun (y0 : List UInt8) => jp (fun (y1 : Bool) => some y1)
 (fun K2 => br (y0 == [115, 117, 98])
 (K2 Bool.true)
 (br (y0 == [115, 117, 98, 119])
 (K2 Bool.true)
 (br (y0 == [115, 114, 97])
 (K2 Bool.true)
 (br (y0 == [115, 114, 97, 105])
 (K2 Bool.true)
 (br (y0 == [115, 114, 97, 119])
 (K2 Bool.true)
 (K2 (y0 == [115, 114, 97, 105, 119]))))))))
theorem F99_eq (N : Nat) (x1 : Int) : g99' N x1 = F99 N x1 := by
  refine (e99 N x1).trans ?_
  simp only [F68_eq, F99]
def g87' (N : Nat) (x1 : Int) : Option (Int) := f87 N (x1)
theorem e87 (N : Nat) (x1 : Int) : g87' N x1 =
  bindS (g68' N x1) (fun (y0 : List UInt8) => jp (fun (y1 : Bool) => br y1
 (some 6)
 (jp (fun (y2 : Bool) => br y2
 (some 5)
 (some 0))
 (fun K3 => br (y0 == [115, 108, 108, 105, 119])
 (K3 Bool.true)
 (br (y0 == [115, 114, 108, 105, 119])
 (K3 Bool.true)
 (K3 (y0 == [115, 114, 97, 105, 119]))))))
 (fun K4 => br (y0 == [115, 108, 108, 105])
 (K4 Bool.true)
 (br (y0 == [115, 114, 108, 105])
 (K4 Bool.true)
 (K4 (y0 == [115, 114, 97, 105]))))) := by kernel_rfl
def F87 (N : Nat) (x1 : Int) : Option (Int) :=
  bindS (F68 N x1) (fun (y0 : List UInt8) => jp (fun (y1 : Bool) => br y1
 (some 6)
 (jp (fun (y2 : Bool) => br y2
 (some 5)
 (some 0))
 (fun K3 => br (y0 == [115, 108, 108, 105, 119])
 (K3 Bool.true)
 (br (y0 == [115, 114, 108, 105, 119])
 (K3 Bool.true)
 (K3 (y0 == [115, 114, 97, 105, 119]))))))
 (fun K4 => br (y0 == [115, 108, 108, 105])
 (K4 Bool.true)
 (br (y0 == [115, 114, 108, 105])
 (K4 Bool.true)
 (K4 (y0 == [115, 114, 97, 105])))))
theorem F87_eq (N : Nat) (x1 : Int) : g87' N x1 = F87 N x1 := by
  refine (e87 N x1).trans ?_
  simp only [F68_eq, F87]
def g100' (N : Nat) (x1 : Int) : Option (Int) := f100 N (x1)
theorem e100 (N : Nat) (x1 : Int) : g100' N x1 =
  jp (fun (y0 : Bool) => br y0
 (some 2)
 (jp (fun (y1 : Bool) => br y1
 (some 3)
 (chk (Decidable.decide (0 ≤ (IntKind.i64.wrap (x1 - 58)).tmod 9) &&
  Decidable.decide ((IntKind.i64.wrap (x1 - 58)).tmod 9 < (↑[1, 0, 4, 12, 8, 16, 20, 24, 28].length : Int))) (some ([1, 0, 4, 12, 8, 16, 20, 24, 28].getD ((IntKind.i64.wrap (x1 - 58)).tmod 9).toNat 0))))
 (fun K2 => br (Decidable.decide (x1 = 56))
 (K2 Bool.true)
 (K2 (Decidable.decide (x1 = 57))))))
 (fun K3 => br (Decidable.decide (x1 = 54))
 (K3 Bool.true)
 (K3 (Decidable.decide (x1 = 55)))) := by kernel_rfl
def F100 (N : Nat) (x1 : Int) : Option (Int) :=
  jp (fun (y0 : Bool) => br y0
 (some 2)
 (jp (fun (y1 : Bool) => br y1
 (some 3)
 (chk (Decidable.decide (0 ≤ (IntKind.i64.wrap (x1 - 58)).tmod 9) &&
  Decidable.decide ((IntKind.i64.wrap (x1 - 58)).tmod 9 < (↑[1, 0, 4, 12, 8, 16, 20, 24, 28].length : Int))) (some ([1, 0, 4, 12, 8, 16, 20, 24, 28].getD ((IntKind.i64.wrap (x1 - 58)).tmod 9).toNat 0))))
 (fun K2 => br (Decidable.decide (x1 = 56))
 (K2 Bool.true)
 (K2 (Decidable.decide (x1 = 57))))))
 (fun K3 => br (Decidable.decide (x1 = 54))
 (K3 Bool.true)
 (K3 (Decidable.decide (x1 = 55))))
theorem F100_eq (N : Nat) (x1 : Int) : g100' N x1 = F100 N x1 := by
  refine (e100 N x1).trans ?_
  rfl
def g84' (N : Nat) (x1 : Int) (x2 : Int) : Option (Bool) := f84 N (x1, x2)
theorem e84 (N : Nat) (x1 : Int) (x2 : Int) : g84' N x1 x2 =
  bindS (g63' N x2) (fun (y0 : Int) => bindS (g48' N x2) (fun (y1 : Int) => br (!Decidable.decide (x1.tmod 128 = y1))
 (some Bool.false)
 (jp (fun (y2 : Bool) => br y2
 (some Bool.true)
 (br (Decidable.decide (y0 = 9))
 (jp (fun (y3 : Bool) => some y3)
 (fun K4 => br (Decidable.decide (x1 = 115))
 (br (Decidable.decide (x2 = 52))
 (K4 Bool.true)
 (br (Decidable.decide (x1 = 1048691))
 (K4 (Decidable.decide (x2 = 53)))
 (K4 Bool.false)))
 (br (Decidable.decide (x1 = 1048691))
 (K4 (Decidable.decide (x2 = 53)))
 (K4 Bool.false))))
 (br (Decidable.decide (y0 = 8))
 (jp (fun (y5 : Bool) => some y5)
 (fun K6 => br (Decidable.decide ((x1.fdiv (2 ^ Min.min 12 IntKind.u32.bits)).tmod 8 = 0))
 (K6 (Decidable.decide (x1.fdiv (2 ^ Min.min 20 IntKind.u32.bits) = 2099) == Decidable.decide (x2 = 51)))
 (K6 Bool.false)))
 (bindS (g50' N x2) (fun (y7 : Int) => br (!Decidable.decide ((x1.fdiv (2 ^ Min.min 12 IntKind.u32.bits)).tmod 8 = y7))
 (some Bool.false)
 (jp (fun (y8 : Int) => jp (fun (y9 : Bool) => br y9
 (some (Decidable.decide (x1.fdiv (2 ^ Min.min 25 IntKind.u32.bits) = y8)))
 (bindS (g87' N x2) (fun (y10 : Int) => br (Decidable.decide (y10 = 6))
 (some (Decidable.decide
  (IntKind.u32.wrap ((x1.fdiv (2 ^ Min.min 25 IntKind.u32.bits)).tdiv 2) = IntKind.u32.wrap (y8.tdiv 2))))
 (br (Decidable.decide (y0 = 10))
 (jp (fun (y11 : Bool) => some y11)
 (fun K12 => br (Decidable.decide (x1.fdiv (2 ^ Min.min 27 IntKind.u32.bits) = 2))
 (K12 (Decidable.decide ((x1.fdiv (2 ^ Min.min 20 IntKind.u32.bits)).tmod 32 = 0)))
 (K12 Bool.false)))
 (br (Decidable.decide (10 < y0))
 (bindS (g100' N x2) (fun (y13 : Int) => some (Decidable.decide (x1.fdiv (2 ^ Min.min 27 IntKind.u32.bits) = y13))))
 (some Bool.true))))))
 (fun K14 => br (Decidable.decide (y0 = 7))
 (K14 Bool.true)
 (bindS (g87' N x2) (fun (y15 : Int) => K14 (Decidable.decide (y15 = 5))))))
 (fun K16 => bindS (g99' N x2) (fun (y17 : Bool) => br y17
 (K16 32)
 (K16 0)))))))))
 (fun K18 => br (Decidable.decide (y0 = 1))
 (K18 Bool.true)
 (K18 (Decidable.decide (x2 = 3))))))) := by kernel_rfl
def F84 (N : Nat) (x1 : Int) (x2 : Int) : Option (Bool) :=
  bindS (F63 N x2) (fun (y0 : Int) => bindS (F48 N x2) (fun (y1 : Int) => br (!Decidable.decide (x1.tmod 128 = y1))
 (some Bool.false)
 (jp (fun (y2 : Bool) => br y2
 (some Bool.true)
 (br (Decidable.decide (y0 = 9))
 (jp (fun (y3 : Bool) => some y3)
 (fun K4 => br (Decidable.decide (x1 = 115))
 (br (Decidable.decide (x2 = 52))
 (K4 Bool.true)
 (br (Decidable.decide (x1 = 1048691))
 (K4 (Decidable.decide (x2 = 53)))
 (K4 Bool.false)))
 (br (Decidable.decide (x1 = 1048691))
 (K4 (Decidable.decide (x2 = 53)))
 (K4 Bool.false))))
 (br (Decidable.decide (y0 = 8))
 (jp (fun (y5 : Bool) => some y5)
 (fun K6 => br (Decidable.decide ((x1.fdiv (2 ^ Min.min 12 IntKind.u32.bits)).tmod 8 = 0))
 (K6 (Decidable.decide (x1.fdiv (2 ^ Min.min 20 IntKind.u32.bits) = 2099) == Decidable.decide (x2 = 51)))
 (K6 Bool.false)))
 (bindS (F50 N x2) (fun (y7 : Int) => br (!Decidable.decide ((x1.fdiv (2 ^ Min.min 12 IntKind.u32.bits)).tmod 8 = y7))
 (some Bool.false)
 (jp (fun (y8 : Int) => jp (fun (y9 : Bool) => br y9
 (some (Decidable.decide (x1.fdiv (2 ^ Min.min 25 IntKind.u32.bits) = y8)))
 (bindS (F87 N x2) (fun (y10 : Int) => br (Decidable.decide (y10 = 6))
 (some (Decidable.decide
  (IntKind.u32.wrap ((x1.fdiv (2 ^ Min.min 25 IntKind.u32.bits)).tdiv 2) = IntKind.u32.wrap (y8.tdiv 2))))
 (br (Decidable.decide (y0 = 10))
 (jp (fun (y11 : Bool) => some y11)
 (fun K12 => br (Decidable.decide (x1.fdiv (2 ^ Min.min 27 IntKind.u32.bits) = 2))
 (K12 (Decidable.decide ((x1.fdiv (2 ^ Min.min 20 IntKind.u32.bits)).tmod 32 = 0)))
 (K12 Bool.false)))
 (br (Decidable.decide (10 < y0))
 (bindS (F100 N x2) (fun (y13 : Int) => some (Decidable.decide (x1.fdiv (2 ^ Min.min 27 IntKind.u32.bits) = y13))))
 (some Bool.true))))))
 (fun K14 => br (Decidable.decide (y0 = 7))
 (K14 Bool.true)
 (bindS (F87 N x2) (fun (y15 : Int) => K14 (Decidable.decide (y15 = 5))))))
 (fun K16 => bindS (F99 N x2) (fun (y17 : Bool) => br y17
 (K16 32)
 (K16 0)))))))))
 (fun K18 => br (Decidable.decide (y0 = 1))
 (K18 Bool.true)
 (K18 (Decidable.decide (x2 = 3)))))))
theorem F84_eq (N : Nat) (x1 : Int) (x2 : Int) : g84' N x1 x2 = F84 N x1 x2 := by
  refine (e84 N x1 x2).trans ?_
  simp only [F100_eq, F48_eq, F50_eq, F63_eq, F87_eq, F99_eq, F84]
def g51' (N : Nat) (x1 : Int) : Option (Bool) := f51 N (x1)
theorem e51 (N : Nat) (x1 : Int) : g51' N x1 =
  bindS (g63' N x1) (fun (y0 : Int) => jp (fun (y1 : Bool) => some y1)
 (fun K2 => br (!Decidable.decide (y0 = 0))
 (br (!Decidable.decide (y0 = 3))
 (br (!Decidable.decide (y0 = 5))
 (br (!Decidable.decide (y0 = 8))
 (K2 (!Decidable.decide (y0 = 9)))
 (K2 Bool.false))
 (K2 Bool.false))
 (K2 Bool.false))
 (K2 Bool.false))) := by kernel_rfl
def F51 (N : Nat) (x1 : Int) : Option (Bool) :=
  bindS (F63 N x1) (fun (y0 : Int) => jp (fun (y1 : Bool) => some y1)
 (fun K2 => br (!Decidable.decide (y0 = 0))
 (br (!Decidable.decide (y0 = 3))
 (br (!Decidable.decide (y0 = 5))
 (br (!Decidable.decide (y0 = 8))
 (K2 (!Decidable.decide (y0 = 9)))
 (K2 Bool.false))
 (K2 Bool.false))
 (K2 Bool.false))
 (K2 Bool.false)))
theorem F51_eq (N : Nat) (x1 : Int) : g51' N x1 = F51 N x1 := by
  refine (e51 N x1).trans ?_
  simp only [F63_eq, F51]
def g52' (N : Nat) (x1 : Int) : Option (Bool) := f52 N (x1)
theorem e52 (N : Nat) (x1 : Int) : g52' N x1 =
  bindS (g63' N x1) (fun (y0 : Int) => jp (fun (y1 : Bool) => some y1)
 (fun K2 => bindS (g68' N x1) (fun (y3 : List UInt8) => br (y3 == [106, 97, 108, 114])
 (K2 Bool.true)
 (br (Decidable.decide (3 ≤ y0))
 (br (Decidable.decide (y0 ≤ 7))
 (K2 Bool.true)
 (K2 (Decidable.decide (10 ≤ y0))))
 (K2 (Decidable.decide (10 ≤ y0))))))) := by kernel_rfl
def F52 (N : Nat) (x1 : Int) : Option (Bool) :=
  bindS (F63 N x1) (fun (y0 : Int) => jp (fun (y1 : Bool) => some y1)
 (fun K2 => bindS (F68 N x1) (fun (y3 : List UInt8) => br (y3 == [106, 97, 108, 114])
 (K2 Bool.true)
 (br (Decidable.decide (3 ≤ y0))
 (br (Decidable.decide (y0 ≤ 7))
 (K2 Bool.true)
 (K2 (Decidable.decide (10 ≤ y0))))
 (K2 (Decidable.decide (10 ≤ y0)))))))
theorem F52_eq (N : Nat) (x1 : Int) : g52' N x1 = F52 N x1 := by
  refine (e52 N x1).trans ?_
  simp only [F63_eq, F68_eq, F52]
def g53' (N : Nat) (x1 : Int) : Option (Bool) := f53 N (x1)
theorem e53 (N : Nat) (x1 : Int) : g53' N x1 =
  bindS (g63' N x1) (fun (y0 : Int) => jp (fun (y1 : Bool) => some y1)
 (fun K2 => br (Decidable.decide (y0 = 3))
 (K2 Bool.true)
 (br (Decidable.decide (y0 = 5))
 (K2 Bool.true)
 (br (Decidable.decide (y0 = 7))
 (K2 Bool.true)
 (K2 (Decidable.decide (11 ≤ y0))))))) := by kernel_rfl
def F53 (N : Nat) (x1 : Int) : Option (Bool) :=
  bindS (F63 N x1) (fun (y0 : Int) => jp (fun (y1 : Bool) => some y1)
 (fun K2 => br (Decidable.decide (y0 = 3))
 (K2 Bool.true)
 (br (Decidable.decide (y0 = 5))
 (K2 Bool.true)
 (br (Decidable.decide (y0 = 7))
 (K2 Bool.true)
 (K2 (Decidable.decide (11 ≤ y0)))))))
theorem F53_eq (N : Nat) (x1 : Int) : g53' N x1 = F53 N x1 := by
  refine (e53 N x1).trans ?_
  simp only [F63_eq, F53]
def g85' (N : Nat) (x1 : Int) : Option (Int) := f85 N (x1)
theorem e85 (N : Nat) (x1 : Int) : g85' N x1 =
  bindS (g87' N x1) (fun (y0 : Int) => br (Decidable.decide (0 < y0))
 (some 0)
 (bindS (g63' N x1) (fun (y1 : Int) => br (Decidable.decide (y1 = 1))
 (some 4)
 (br (Decidable.decide (y1 = 2))
 (br (Decidable.decide (x1 = 3))
 (some 5)
 (some 1))
 (br (Decidable.decide (y1 = 3))
 (some 3)
 (jp (fun (y2 : Bool) => br y2
 (some 1)
 (br (Decidable.decide (y1 = 5))
 (some 2)
 (some 0)))
 (fun K3 => br (Decidable.decide (y1 = 4))
 (K3 Bool.true)
 (K3 (Decidable.decide (y1 = 6)))))))))) := by kernel_rfl
def F85 (N : Nat) (x1 : Int) : Option (Int) :=
  bindS (F87 N x1) (fun (y0 : Int) => br (Decidable.decide (0 < y0))
 (some 0)
 (bindS (F63 N x1) (fun (y1 : Int) => br (Decidable.decide (y1 = 1))
 (some 4)
 (br (Decidable.decide (y1 = 2))
 (br (Decidable.decide (x1 = 3))
 (some 5)
 (some 1))
 (br (Decidable.decide (y1 = 3))
 (some 3)
 (jp (fun (y2 : Bool) => br y2
 (some 1)
 (br (Decidable.decide (y1 = 5))
 (some 2)
 (some 0)))
 (fun K3 => br (Decidable.decide (y1 = 4))
 (K3 Bool.true)
 (K3 (Decidable.decide (y1 = 6))))))))))
theorem F85_eq (N : Nat) (x1 : Int) : g85' N x1 = F85 N x1 := by
  refine (e85 N x1).trans ?_
  simp only [F63_eq, F87_eq, F85]
def g101' (N : Nat) (x1 : Int) : Option (List Int) := f101 N (x1)
theorem e101 (N : Nat) (x1 : Int) : g101' N x1 =
  fixN N (fun again0 (y1 : Int × List Int) => br (Decidable.decide (y1.1 < 32))
 (jp (fun (y2 : Int) => chk (Decidable.decide (0 ≤ y1.1) && Decidable.decide (y1.1 < (↑32 : Int))) (again0 ((IntKind.i64.wrap (y1.1 + 1), setD 0 y1.2 y1.1.toNat y2))))
 (fun K3 => br (Decidable.decide (x1 = 1))
 (br (Decidable.decide (20 ≤ y1.1))
 (K3 (IntKind.i64.wrap (y1.1 - 20)))
 (K3 (-1)))
 (br (Decidable.decide (x1 = 2))
 (jp (fun (y4 : Int) => jp (fun (y5 : Bool) => br y5
 (K3 (IntKind.i64.wrap (y1.1 - 7)))
 (K3 y4))
 (fun K6 => br (Decidable.decide (7 ≤ y1.1))
 (K6 (Decidable.decide (y1.1 ≤ 11)))
 (K6 Bool.false)))
 (fun K7 => br (Decidable.decide (25 ≤ y1.1))
 (K7 (IntKind.i64.wrap (y1.1 - 20)))
 (K7 (-1))))
 (br (Decidable.decide (x1 = 3))
 (jp (fun (y8 : Int) => jp (fun (y9 : Int) => jp (fun (y10 : Int) => jp (fun (y11 : Bool) => br y11
 (K3 (IntKind.i64.wrap (y1.1 - 7)))
 (K3 y10))
 (fun K12 => br (Decidable.decide (8 ≤ y1.1))
 (K12 (Decidable.decide (y1.1 ≤ 11)))
 (K12 Bool.false)))
 (fun K13 => jp (fun (y14 : Bool) => br y14
 (K13 (IntKind.i64.wrap (y1.1 - 20)))
 (K13 y9))
 (fun K15 => br (Decidable.decide (25 ≤ y1.1))
 (K15 (Decidable.decide (y1.1 ≤ 30)))
 (K15 Bool.false))))
 (fun K16 => br (Decidable.decide (y1.1 = 7))
 (K16 11)
 (K16 y8)))
 (fun K17 => br (Decidable.decide (y1.1 = 31))
 (K17 12)
 (K17 (-1))))
 (br (Decidable.decide (x1 = 4))
 (br (Decidable.decide (12 ≤ y1.1))
 (K3 y1.1)
 (K3 (-1)))
 (br (Decidable.decide (x1 = 5))
 (jp (fun (y18 : Int) => jp (fun (y19 : Int) => jp (fun (y20 : Int) => jp (fun (y21 : Bool) => br y21
 (K3 (IntKind.i64.wrap (y1.1 - 20)))
 (K3 y20))
 (fun K22 => br (Decidable.decide (21 ≤ y1.1))
 (K22 (Decidable.decide (y1.1 ≤ 30)))
 (K22 Bool.false)))
 (fun K23 => br (Decidable.decide (y1.1 = 20))
 (K23 11)
 (K23 y19)))
 (fun K24 => jp (fun (y25 : Bool) => br y25
 (K24 y1.1)
 (K24 y18))
 (fun K26 => br (Decidable.decide (12 ≤ y1.1))
 (K26 (Decidable.decide (y1.1 ≤ 19)))
 (K26 Bool.false))))
 (fun K27 => br (Decidable.decide (y1.1 = 31))
 (K27 20)
 (K27 (-1))))
 (K3 (-1))))))))
 (some y1.2))
 ((0, [0, 0, 0, 0, 0, 0, 0, 0, 0, 0, 0, 0, 0, 0, 0, 0, 0, 0, 0, 0, 0, 0, 0, 0, 0, 0, 0, 0, 0, 0, 0, 0])) := by kernel_rfl
def F101 (N : Nat) (x1 : Int) : Option (List Int) :=
  fixN N (fun again0 (y1 : Int × List Int) => br (Decidable.decide (y1.1 < 32))
 (jp (fun (y2 : Int) => chk (Decidable.decide (0 ≤ y1.1) && Decidable.decide (y1.1 < (↑32 : Int))) (again0 ((IntKind.i64.wrap (y1.1 + 1), setD 0 y1.2 y1.1.toNat y2))))
 (fun K3 => br (Decidable.decide (x1 = 1))
 (br (Decidable.decide (20 ≤ y1.1))
 (K3 (IntKind.i64.wrap (y1.1 - 20)))
 (K3 (-1)))
 (br (Decidable.decide (x1 = 2))
 (jp (fun (y4 : Int) => jp (fun (y5 : Bool) => br y5
 (K3 (IntKind.i64.wrap (y1.1 - 7)))
 (K3 y4))
 (fun K6 => br (Decidable.decide (7 ≤ y1.1))
 (K6 (Decidable.decide (y1.1 ≤ 11)))
 (K6 Bool.false)))
 (fun K7 => br (Decidable.decide (25 ≤ y1.1))
 (K7 (IntKind.i64.wrap (y1.1 - 20)))
 (K7 (-1))))
 (br (Decidable.decide (x1 = 3))
 (jp (fun (y8 : Int) => jp (fun (y9 : Int) => jp (fun (y10 : Int) => jp (fun (y11 : Bool) => br y11
 (K3 (IntKind.i64.wrap (y1.1 - 7)))
 (K3 y10))
 (fun K12 => br (Decidable.decide (8 ≤ y1.1))
 (K12 (Decidable.decide (y1.1 ≤ 11)))
 (K12 Bool.false)))
 (fun K13 => jp (fun (y14 : Bool) => br y14
 (K13 (IntKind.i64.wrap (y1.1 - 20)))
 (K13 y9))
 (fun K15 => br (Decidable.decide (25 ≤ y1.1))
 (K15 (Decidable.decide (y1.1 ≤ 30)))
 (K15 Bool.false))))
 (fun K16 => br (Decidable.decide (y1.1 = 7))
 (K16 11)
 (K16 y8)))
 (fun K17 => br (Decidable.decide (y1.1 = 31))
 (K17 12)
 (K17 (-1))))
 (br (Decidable.decide (x1 = 4))
 (br (Decidable.decide (12 ≤ y1.1))
 (K3 y1.1)
 (K3 (-1)))
 (br (Decidable.decide (x1 = 5))
 (jp (fun (y18 : Int) => jp (fun (y19 : Int) => jp (fun (y20 : Int) => jp (fun (y21 : Bool) => br y21
 (K3 (IntKind.i64.wrap (y1.1 - 20)))
 (K3 y20))
 (fun K22 => br (Decidable.decide (21 ≤ y1.1))
 (K22 (Decidable.decide (y1.1 ≤ 30)))
 (K22 Bool.false)))
 (fun K23 => br (Decidable.decide (y1.1 = 20))
 (K23 11)
 (K23 y19)))
 (fun K24 => jp (fun (y25 : Bool) => br y25
 (K24 y1.1)
 (K24 y18))
 (fun K26 => br (Decidable.decide (12 ≤ y1.1))
 (K26 (Decidable.decide (y1.1 ≤ 19)))
 (K26 Bool.false))))
 (fun K27 => br (Decidable.decide (y1.1 = 31))
 (K27 20)
 (K27 (-1))))
 (K3 (-1))))))))
 (some y1.2))
 ((0, [0, 0, 0, 0, 0, 0, 0, 0, 0, 0, 0, 0, 0, 0, 0, 0, 0, 0, 0, 0, 0, 0, 0, 0, 0, 0, 0, 0, 0, 0, 0, 0]))
theorem F101_eq (N : Nat) (x1 : Int) : g101' N x1 = F101 N x1 := by
  refine (e101 N x1).trans ?_
  rfl
def g86' (N : Nat) (x1 : Int) (x2 : Int) : Option (Int) := f86 N (x1, x2)
theorem e86 (N : Nat) (x1 : Int) (x2 : Int) : g86' N x1 x2 =
  bindS (g101' N x1) (fun (y0 : List Int) => fixN N (fun again1 (y2 : Int × Int) => br (Decidable.decide (y2.2 < 32))
 (jp (fun (y3 : Int) => again1 ((y3, IntKind.i64.wrap (y2.2 + 1))))
 (fun K4 => jp (fun (y5 : Bool) => br y5
 (K4 y2.1)
 (br (Decidable.decide (y2.2 = 31))
 (chk (Decidable.decide (0 ≤ y2.2) && Decidable.decide (y2.2 < (↑32 : Int))) (chk (Decidable.decide (0 ≤ IntKind.u64.wrap (y0.getD y2.2.toNat 0))) (K4 (IntKind.i64.wrap
  (y2.1 - IntKind.i64.wrap (1 * 2 ^ Min.min (IntKind.u64.wrap (y0.getD y2.2.toNat 0)).toNat IntKind.i64.bits))))))
 (chk (Decidable.decide (0 ≤ y2.2) && Decidable.decide (y2.2 < (↑32 : Int))) (chk (Decidable.decide (0 ≤ IntKind.u64.wrap (y0.getD y2.2.toNat 0))) (K4 (IntKind.i64.wrap
  (y2.1 + IntKind.i64.wrap (1 * 2 ^ Min.min (IntKind.u64.wrap (y0.getD y2.2.toNat 0)).toNat IntKind.i64.bits))))))))
 (fun K6 => chk (Decidable.decide (0 ≤ y2.2) && Decidable.decide (y2.2 < (↑32 : Int))) (br (Decidable.decide (y0.getD y2.2.toNat 0 < 0))
 (K6 Bool.true)
 (chk (Decidable.decide (0 ≤ IntKind.u64.wrap y2.2)) (K6 (Decidable.decide
  (Go.bits Go.BinOp.and IntKind.u32 (x2.fdiv (2 ^ Min.min (IntKind.u64.wrap y2.2).toNat IntKind.u32.bits)) 1 =
    0))))))))
 (some y2.1))
 ((0, 0))) := by kernel_rfl
def F86 (N : Nat) (x1 : Int) (x2 : Int) : Option (Int) :=
  bindS (F101 N x1) (fun (y0 : List Int) => fixN N (fun again1 (y2 : Int × Int) => br (Decidable.decide (y2.2 < 32))
 (jp (fun (y3 : Int) => again1 ((y3, IntKind.i64.wrap (y2.2 + 1))))
 (fun K4 => jp (fun (y5 : Bool) => br y5
 (K4 y2.1)
 (br (Decidable.decide (y2.2 = 31))
 (chk (Decidable.decide (0 ≤ y2.2) && Decidable.decide (y2.2 < (↑32 : Int))) (chk (Decidable.decide (0 ≤ IntKind.u64.wrap (y0.getD y2.2.toNat 0))) (K4 (IntKind.i64.wrap
  (y2.1 - IntKind.i64.wrap (1 * 2 ^ Min.min (IntKind.u64.wrap (y0.getD y2.2.toNat 0)).toNat IntKind.i64.bits))))))
 (chk (Decidable.decide (0 ≤ y2.2) && Decidable.decide (y2.2 < (↑32 : Int))) (chk (Decidable.decide (0 ≤ IntKind.u64.wrap (y0.getD y2.2.toNat 0))) (K4 (IntKind.i64.wrap
  (y2.1 + IntKind.i64.wrap (1 * 2 ^ Min.min (IntKind.u64.wrap (y0.getD y2.2.toNat 0)).toNat IntKind.i64.bits))))))))
 (fun K6 => chk (Decidable.decide (0 ≤ y2.2) && Decidable.decide (y2.2 < (↑32 : Int))) (br (Decidable.decide (y0.getD y2.2.toNat 0 < 0))
 (K6 Bool.true)
 (chk (Decidable.decide (0 ≤ IntKind.u64.wrap y2.2)) (K6 (Decidable.decide
  (Go.bits Go.BinOp.and IntKind.u32 (x2.fdiv (2 ^ Min.min (IntKind.u64.wrap y2.2).toNat IntKind.u32.bits)) 1 =
    0))))))))
 (some y2.1))
 ((0, 0)))
theorem F86_eq (N : Nat) (x1 : Int) (x2 : Int) : g86' N x1 x2 = F86 N x1 x2 := by
  refine (e86 N x1 x2).trans ?_
  simp only [F101_eq, F86]
def g78' (N : Nat) (x1 : Int) : Option ((Int × (Int × (Int × (Int × (Int × (Bool × (Bool × (Int × Int)))))))) × Bool) := f78 N (x1)
theorem e78 (N : Nat) (x1 : Int) : g78' N x1 =
  fixN N (fun again0 (y1 : Int) => br (Decidable.decide (y1 ≤ 75))
 (bindS (g84' N x1 y1) (fun (y2 : Bool) => br (!y2)
 (again0 (IntKind.i64.wrap (y1 + 1)))
 (jp (fun (y3 : Int × Int × Int × Int × Int × Bool × Bool × Int × Int) => jp (fun (y4 : Int × Int × Int × Int × Int × Bool × Bool × Int × Int) => jp (fun (y5 : Int × Int × Int × Int × Int × Bool × Bool × Int × Int) => jp (fun (y6 : Int × Int × Int × Int × Int × Bool × Bool × Int × Int) => jp (fun (y7 : Int × Int × Int × Int × Int × Bool × Bool × Int × Int) => jp (fun (y8 : Int × Int × Int × Int × Int × Bool × Bool × Int × Int) => jp (fun (y9 : Int × Int × Int × Int × Int × Bool × Bool × Int × Int) => jp (fun (y10 : Int × Int × Int × Int × Int × Bool × Bool × Int × Int) => jp (fun (y11 : Int × Int × Int × Int × Int × Bool × Bool × Int × Int) => some ((y11, Bool.true)))
 (fun K12 => br (Decidable.decide (y1 = 51))
 (K12 ((y10.1, (y10.2.1, (y10.2.2.1, (y10.2.2.2.1, (y10.2.2.2.2.1, (y10.2.2.2.2.2.1, (y10.2.2.2.2.2.2.1, (3, 3))))))))))
 (K12 y10)))
 (fun K13 => br (Decidable.decide (y1 = 50))
 (K13 ((y9.1, (y9.2.1, (y9.2.2.1, (y9.2.2.2.1, (y9.2.2.2.2.1, (y9.2.2.2.2.2.1, (y9.2.2.2.2.2.2.1, (IntKind.i64.wrap ((x1.fdiv (2 ^ Min.min 24 IntKind.u32.bits)).tmod 16), IntKind.i64.wrap ((x1.fdiv (2 ^ Min.min 20 IntKind.u32.bits)).tmod 16)))))))))))
 (K13 y9)))
 (fun K14 => bindS (g63' N y1) (fun (y15 : Int) => br (Decidable.decide (10 ≤ y15))
 (K14 ((y8.1, (y8.2.1, (y8.2.2.1, (y8.2.2.2.1, (y8.2.2.2.2.1, (Decidable.decide ((x1.fdiv (2 ^ Min.min 26 IntKind.u32.bits)).tmod 2 = 1), (Decidable.decide ((x1.fdiv (2 ^ Min.min 25 IntKind.u32.bits)).tmod 2 = 1), y8.2.2.2.2.2.2.2)))))))))
 (K14 y8))))
 (fun K16 => bindS (g87' N y1) (fun (y17 : Int) => br (Decidable.decide (y17 = 5))
 (K16 ((y7.1, (y7.2.1, (y7.2.2.1, (y7.2.2.2.1, (IntKind.i64.wrap ((x1.fdiv (2 ^ Min.min 20 IntKind.u32.bits)).tmod 32), y7.2.2.2.2.2)))))))
 (K16 y7))))
 (fun K18 => bindS (g87' N y1) (fun (y19 : Int) => br (Decidable.decide (y19 = 6))
 (K18 ((y6.1, (y6.2.1, (y6.2.2.1, (y6.2.2.2.1, (IntKind.i64.wrap ((x1.fdiv (2 ^ Min.min 20 IntKind.u32.bits)).tmod 64), y6.2.2.2.2.2)))))))
 (K18 y6))))
 (fun K20 => bindS (g85' N y1) (fun (y21 : Int) => br (Decidable.decide (0 < y21))
 (bindS (g85' N y1) (fun (y22 : Int) => bindS (g86' N y22 x1) (fun (y23 : Int) => K20 ((y5.1, (y5.2.1, (y5.2.2.1, (y5.2.2.2.1, (y23, y5.2.2.2.2.2)))))))))
 (K20 y5))))
 (fun K24 => bindS (g53' N y1) (fun (y25 : Bool) => br y25
 (K24 ((y4.1, (y4.2.1, (y4.2.2.1, (IntKind.i64.wrap ((x1.fdiv (2 ^ Min.min 20 IntKind.u32.bits)).tmod 32), y4.2.2.2.2))))))
 (K24 y4))))
 (fun K26 => bindS (g52' N y1) (fun (y27 : Bool) => br y27
 (K26 ((y3.1, (y3.2.1, (IntKind.i64.wrap ((x1.fdiv (2 ^ Min.min 15 IntKind.u32.bits)).tmod 32), y3.2.2.2)))))
 (K26 y3))))
 (fun K28 => bindS (g51' N y1) (fun (y29 : Bool) => br y29
 (K28 ((y1, (IntKind.i64.wrap ((x1.fdiv (2 ^ Min.min 7 IntKind.u32.bits)).tmod 32), (0, (0, (0, (Bool.false, (Bool.false, (0, 0))))))))))
 (K28 ((y1, (0, (0, (0, (0, (Bool.false, (Bool.false, (0, 0)))))))))))))))
 (some (((0, (0, (0, (0, (0, (Bool.false, (Bool.false, (0, 0)))))))), Bool.false))))
 1 := by kernel_rfl
def F78 (N : Nat) (x1 : Int) : Option ((Int × (Int × (Int × (Int × (Int × (Bool × (Bool × (Int × Int)))))))) × Bool) :=
  fixN N (fun again0 (y1 : Int) => br (Decidable.decide (y1 ≤ 75))
 (bindS (F84 N x1 y1) (fun (y2 : Bool) => br (!y2)
 (again0 (IntKind.i64.wrap (y1 + 1)))
 (jp (fun (y3 : Int × Int × Int × Int × Int × Bool × Bool × Int × Int) => jp (fun (y4 : Int × Int × Int × Int × Int × Bool × Bool × Int × Int) => jp (fun (y5 : Int × Int × Int × Int × Int × Bool × Bool × Int × Int) => jp (fun (y6 : Int × Int × Int × Int × Int × Bool × Bool × Int × Int) => jp (fun (y7 : Int × Int × Int × Int × Int × Bool × Bool × Int × Int) => jp (fun (y8 : Int × Int × Int × Int × Int × Bool × Bool × Int × Int) => jp (fun (y9 : Int × Int × Int × Int × Int × Bool × Bool × Int × Int) => jp (fun (y10 : Int × Int × Int × Int × Int × Bool × Bool × Int × Int) => jp (fun (y11 : Int × Int × Int × Int × Int × Bool × Bool × Int × Int) => some ((y11, Bool.true)))
 (fun K12 => br (Decidable.decide (y1 = 51))
 (K12 ((y10.1, (y10.2.1, (y10.2.2.1, (y10.2.2.2.1, (y10.2.2.2.2.1, (y10.2.2.2.2.2.1, (y10.2.2.2.2.2.2.1, (3, 3))))))))))
 (K12 y10)))
 (fun K13 => br (Decidable.decide (y1 = 50))
 (K13 ((y9.1, (y9.2.1, (y9.2.2.1, (y9.2.2.2.1, (y9.2.2.2.2.1, (y9.2.2.2.2.2.1, (y9.2.2.2.2.2.2.1, (IntKind.i64.wrap ((x1.fdiv (2 ^ Min.min 24 IntKind.u32.bits)).tmod 16), IntKind.i64.wrap ((x1.fdiv (2 ^ Min.min 20 IntKind.u32.bits)).tmod 16)))))))))))
 (K13 y9)))
 (fun K14 => bindS (F63 N y1) (fun (y15 : Int) => br (Decidable.decide (10 ≤ y15))
 (K14 ((y8.1, (y8.2.1, (y8.2.2.1, (y8.2.2.2.1, (y8.2.2.2.2.1, (Decidable.decide ((x1.fdiv (2 ^ Min.min 26 IntKind.u32.bits)).tmod 2 = 1), (Decidable.decide ((x1.fdiv (2 ^ Min.min 25 IntKind.u32.bits)).tmod 2 = 1), y8.2.2.2.2.2.2.2)))))))))
 (K14 y8))))
 (fun K16 => bindS (F87 N y1) (fun (y17 : Int) => br (Decidable.decide (y17 = 5))
 (K16 ((y7.1, (y7.2.1, (y7.2.2.1, (y7.2.2.2.1, (IntKind.i64.wrap ((x1.fdiv (2 ^ Min.min 20 IntKind.u32.bits)).tmod 32), y7.2.2.2.2.2)))))))
 (K16 y7))))
 (fun K18 => bindS (F87 N y1) (fun (y19 : Int) => br (Decidable.decide (y19 = 6))
 (K18 ((y6.1, (y6.2.1, (y6.2.2.1, (y6.2.2.2.1, (IntKind.i64.wrap ((x1.fdiv (2 ^ Min.min 20 IntKind.u32.bits)).tmod 64), y6.2.2.2.2.2)))))))
 (K18 y6))))
 (fun K20 => bindS (F85 N y1) (fun (y21 : Int) => br (Decidable.decide (0 < y21))
 (bindS (F85 N y1) (fun (y22 : Int) => bindS (F86 N y22 x1) (fun (y23 : Int) => K20 ((y5.1, (y5.2.1, (y5.2.2.1, (y5.2.2.2.1, (y23, y5.2.2.2.2.2)))))))))
 (K20 y5))))
 (fun K24 => bindS (F53 N y1) (fun (y25 : Bool) => br y25
 (K24 ((y4.1, (y4.2.1, (y4.2.2.1, (IntKind.i64.wrap ((x1.fdiv (2 ^ Min.min 20 IntKind.u32.bits)).tmod 32), y4.2.2.2.2))))))
 (K24 y4))))
 (fun K26 => bindS (F52 N y1) (fun (y27 : Bool) => br y27
 (K26 ((y3.1, (y3.2.1, (IntKind.i64.wrap ((x1.fdiv (2 ^ Min.min 15 IntKind.u32.bits)).tmod 32), y3.2.2.2)))))
 (K26 y3))))
 (fun K28 => bindS (F51 N y1) (fun (y29 : Bool) => br y29
 (K28 ((y1, (IntKind.i64.wrap ((x1.fdiv (2 ^ Min.min 7 IntKind.u32.bits)).tmod 32), (0, (0, (0, (Bool.false, (Bool.false, (0, 0))))))))))
 (K28 ((y1, (0, (0, (0, (0, (Bool.false, (Bool.false, (0, 0)))))))))))))))
 (some (((0, (0, (0, (0, (0, (Bool.false, (Bool.false, (0, 0)))))))), Bool.false))))
 1
theorem F78_eq (N : Nat) (x1 : Int) : g78' N x1 = F78 N x1 := by
  refine (e78 N x1).trans ?_
  simp only [F51_eq, F52_eq, F53_eq, F63_eq, F84_eq, F85_eq, F86_eq, F87_eq, F78]
def g47' (N : Nat) (x1 : Int) : Option (Bool) := f47 N (x1)
theorem e47 (N : Nat) (x1 : Int) : g47' N x1 =
  bindS (g55' N x1) (fun (y0 : (Int × Int × Int × Int × Int × Bool × Bool × Int × Int) × Int) => bindS (g78' N x1) (fun (y1 : (Int × Int × Int × Int × Int × Bool × Bool × Int × Int) × Bool) => jp (fun (y2 : Bool) => some y2)
 (fun K3 => br (((Ty.int IntKind.i64).pair
      ((Ty.int IntKind.i64).pair
        ((Ty.int IntKind.i64).pair
          ((Ty.int IntKind.i64).pair
            ((Ty.int IntKind.i64).pair
              (Ty.bool.pair
                (Ty.bool.pair ((Ty.int IntKind.i64).pair (Ty.int IntKind.i64))))))))).eq
  y0.1 y1.1)
 (br y1.2
 (br (Decidable.decide (y0.2 = 0))
 (K3 Bool.true)
 (br (!y1.2)
 (K3 (Decidable.decide (y0.2 = 2)))
 (K3 Bool.false)))
 (br (!y1.2)
 (K3 (Decidable.decide (y0.2 = 2)))
 (K3 Bool.false)))
 (K3 Bool.false)))) := by kernel_rfl
def F47 (N : Nat) (x1 : Int) : Option (Bool) :=
  bindS (F55 N x1) (fun (y0 : (Int × Int × Int × Int × Int × Bool × Bool × Int × Int) × Int) => bindS (F78 N x1) (fun (y1 : (Int × Int × Int × Int × Int × Bool × Bool × Int × Int) × Bool) => jp (fun (y2 : Bool) => some y2)
 (fun K3 => br (((Ty.int IntKind.i64).pair
      ((Ty.int IntKind.i64).pair
        ((Ty.int IntKind.i64).pair
          ((Ty.int IntKind.i64).pair
            ((Ty.int IntKind.i64).pair
              (Ty.bool.pair
                (Ty.bool.pair ((Ty.int IntKind.i64).pair (Ty.int IntKind.i64))))))))).eq
  y0.1 y1.1)
 (br y1.2
 (br (Decidable.decide (y0.2 = 0))
 (K3 Bool.true)
 (br (!y1.2)
 (K3 (Decidable.decide (y0.2 = 2)))
 (K3 Bool.false)))
 (br (!y1.2)
 (K3 (Decidable.decide (y0.2 = 2)))
 (K3 Bool.false)))
 (K3 Bool.false))))
theorem F47_eq (N : Nat) (x1 : Int) : g47' N x1 = F47 N x1 := by
  refine (e47 N x1).trans ?_
  simp only [F55_eq, F78_eq, F47]
def g11' (N : Nat) (x1 : Int) : Option (Bool) := f11 N (x1)
theorem e11 (N : Nat) (x1 : Int) : g11' N x1 =
  bindS (g46' N ) (fun (y0 : Bool) => br (!y0)
 (some Bool.false)
 (fixN N (fun again1 (y2 : Int) => br (Decidable.decide (y2 < 32))
 (chk (Decidable.decide (0 ≤ IntKind.u64.wrap y2)) (bindS (g47' N ((Go.bits Go.BinOp.xor IntKind.u32 x1
    (IntKind.u32.wrap (1 * 2 ^ Min.min (IntKind.u64.wrap y2).toNat IntKind.u32.bits))))) (fun (y3 : Bool) => br (!y3)
 (some Bool.false)
 (again1 (IntKind.i64.wrap (y2 + 1))))))
 (jp (fun (y4 : Bool) => some y4)
 (fun K5 => bindS (g46' N ) (fun (y6 : Bool) => br y6
 (bindS (g47' N x1) (fun (y7 : Bool) => K5 y7))
 (K5 Bool.false)))))
 0)) := by kernel_rfl
def F11 (N : Nat) (x1 : Int) : Option (Bool) :=
  bindS (F46 N ) (fun (y0 : Bool) => br (!y0)
 (some Bool.false)
 (fixN N (fun again1 (y2 : Int) => br (Decidable.decide (y2 < 32))
 (chk (Decidable.decide (0 ≤ IntKind.u64.wrap y2)) (bindS (F47 N ((Go.bits Go.BinOp.xor IntKind.u32 x1
    (IntKind.u32.wrap (1 * 2 ^ Min.min (IntKind.u64.wrap y2).toNat IntKind.u32.bits))))) (fun (y3 : Bool) => br (!y3)
 (some Bool.false)
 (again1 (IntKind.i64.wrap (y2 + 1))))))
 (jp (fun (y4 : Bool) => some y4)
 (fun K5 => bindS (F46 N ) (fun (y6 : Bool) => br y6
 (bindS (F47 N x1) (fun (y7 : Bool) => K5 y7))
 (K5 Bool.false)))))
 0))
theorem F11_eq (N : Nat) (x1 : Int) : g11' N x1 = F11 N x1 := by
  refine (e11 N x1).trans ?_
  simp only [F46_eq, F47_eq, F11]
def g12' (N : Nat) (x1 : Int) (x2 : Int) : Option (Bool) := f12 N (x1, x2)
theorem e12 (N : Nat) (x1 : Int) (x2 : Int) : g12' N x1 x2 =
  bindS (g46' N ) (fun (y0 : Bool) => br (!y0)
 (some Bool.false)
 (fixN N (fun again1 (y2 : Int) => br (Decidable.decide (y2 ≤ 75))
 (bindS (g48' N y2) (fun (y3 : Int) => jp (fun (y4 : Bool) => br y4
 (some Bool.false)
 (again1 (IntKind.i64.wrap (y2 + 1))))
 (fun K5 => bindS (g49' N y2) (fun (y6 : Int) => br (!Decidable.decide (y6 = y3))
 (K5 Bool.true)
 (bindS (g47' N ((Go.bits Go.BinOp.or IntKind.u32 (Go.bits Go.BinOp.andNot IntKind.u32 x2 127) y3))) (fun (y7 : Bool) => br (!y7)
 (K5 Bool.true)
 (bindS (g50' N y2) (fun (y8 : Int) => bindS (g47' N ((Go.bits Go.BinOp.or IntKind.u32
    (Go.bits Go.BinOp.or IntKind.u32 (Go.bits Go.BinOp.andNot IntKind.u32 x2 4261441663) y3)
    (IntKind.u32.wrap (y8 * 2 ^ Min.min 12 IntKind.u32.bits))))) (fun (y9 : Bool) => K5 (!y9))))))))))
 (jp (fun (y10 : Bool) => some y10)
 (fun K11 => bindS (g46' N ) (fun (y12 : Bool) => br y12
 (bindS (g49' N x1) (fun (y13 : Int) => bindS (g48' N x1) (fun (y14 : Int) => K11 (Decidable.decide (y13 = y14)))))
 (K11 Bool.false)))))
 1)) := by kernel_rfl
def F12 (N : Nat) (x1 : Int) (x2 : Int) : Option (Bool) :=
  bindS (F46 N ) (fun (y0 : Bool) => br (!y0)
 (some Bool.false)
 (fixN N (fun again1 (y2 : Int) => br (Decidable.decide (y2 ≤ 75))
 (bindS (F48 N y2) (fun (y3 : Int) => jp (fun (y4 : Bool) => br y4
 (some Bool.false)
 (again1 (IntKind.i64.wrap (y2 + 1))))
 (fun K5 => bindS (F49 N y2) (fun (y6 : Int) => br (!Decidable.decide (y6 = y3))
 (K5 Bool.true)
 (bindS (F47 N ((Go.bits Go.BinOp.or IntKind.u32 (Go.bits Go.BinOp.andNot IntKind.u32 x2 127) y3))) (fun (y7 : Bool) => br (!y7)
 (K5 Bool.true)
 (bindS (F50 N y2) (fun (y8 : Int) => bindS (F47 N ((Go.bits Go.BinOp.or IntKind.u32
    (Go.bits Go.BinOp.or IntKind.u32 (Go.bits Go.BinOp.andNot IntKind.u32 x2 4261441663) y3)
    (IntKind.u32.wrap (y8 * 2 ^ Min.min 12 IntKind.u32.bits))))) (fun (y9 : Bool) => K5 (!y9))))))))))
 (jp (fun (y10 : Bool) => some y10)
 (fun K11 => bindS (F46 N ) (fun (y12 : Bool) => br y12
 (bindS (F49 N x1) (fun (y13 : Int) => bindS (F48 N x1) (fun (y14 : Int) => K11 (Decidable.decide (y13 = y14)))))
 (K11 Bool.false)))))
 1))
theorem F12_eq (N : Nat) (x1 : Int) (x2 : Int) : g12' N x1 x2 = F12 N x1 x2 := by
  refine (e12 N x1 x2).trans ?_
  simp only [F46_eq, F47_eq, F48_eq, F49_eq, F50_eq, F12]
def g13' (N : Nat) (x1 : (Int × (Int × (Int × (Int × (Int × (Bool × (Bool × (Int × Int))))))))) : Option (Bool) := f13 N (x1)
theorem e13 (N : Nat) (x1 : (Int × (Int × (Int × (Int × (Int × (Bool × (Bool × (Int × Int))))))))) : g13' N x1 =
  bindS (g46' N ) (fun (y0 : Bool) => br (!y0)
 (some Bool.false)
 (jp (fun (y1 : Int × Int × Int × Int × Int × Bool × Bool × Int × Int) => jp (fun (y2 : Int × Int × Int × Int × Int × Bool × Bool × Int × Int) => jp (fun (y3 : Int × Int × Int × Int × Int × Bool × Bool × Int × Int) => bindS (g54' N x1) (fun (y4 : Int × Int × Int × Int × Int × Bool × Bool × Int × Int) => some (((Ty.int IntKind.i64).pair
      ((Ty.int IntKind.i64).pair
        ((Ty.int IntKind.i64).pair
          ((Ty.int IntKind.i64).pair
            ((Ty.int IntKind.i64).pair
              (Ty.bool.pair
                (Ty.bool.pair ((Ty.int IntKind.i64).pair (Ty.int IntKind.i64))))))))).eq
  y4 y3)))
 (fun K5 => bindS (g53' N x1.1) (fun (y6 : Bool) => br (!y6)
 (K5 ((y2.1, (y2.2.1, (y2.2.2.1, (0, y2.2.2.2.2))))))
 (K5 y2))))
 (fun K7 => bindS (g52' N x1.1) (fun (y8 : Bool) => br (!y8)
 (K7 ((y1.1, (y1.2.1, (0, y1.2.2.2)))))
 (K7 y1))))
 (fun K9 => bindS (g51' N x1.1) (fun (y10 : Bool) => br (!y10)
 (K9 ((x1.1, (0, x1.2.2))))
 (K9 x1))))) := by kernel_rfl
def F13 (N : Nat) (x1 : (Int × (Int × (Int × (Int × (Int × (Bool × (Bool × (Int × Int))))))))) : Option (Bool) :=
  bindS (F46 N ) (fun (y0 : Bool) => br (!y0)
 (some Bool.false)
 (jp (fun (y1 : Int × Int × Int × Int × Int × Bool × Bool × Int × Int) => jp (fun (y2 : Int × Int × Int × Int × Int × Bool × Bool × Int × Int) => jp (fun (y3 : Int × Int × Int × Int × Int × Bool × Bool × Int × Int) => bindS (F54 N x1) (fun (y4 : Int × Int × Int × Int × Int × Bool × Bool × Int × Int) => some (((Ty.int IntKind.i64).pair
      ((Ty.int IntKind.i64).pair
        ((Ty.int IntKind.i64).pair
          ((Ty.int IntKind.i64).pair
            ((Ty.int IntKind.i64).pair
              (Ty.bool.pair
                (Ty.bool.pair ((Ty.int IntKind.i64).pair (Ty.int IntKind.i64))))))))).eq
  y4 y3)))
 (fun K5 => bindS (F53 N x1.1) (fun (y6 : Bool) => br (!y6)
 (K5 ((y2.1, (y2.2.1, (y2.2.2.1, (0, y2.2.2.2.2))))))
 (K5 y2))))
 (fun K7 => bindS (F52 N x1.1) (fun (y8 : Bool) => br (!y8)
 (K7 ((y1.1, (y1.2.1, (0, y1.2.2.2)))))
 (K7 y1))))
 (fun K9 => bindS (F51 N x1.1) (fun (y10 : Bool) => br (!y10)
 (K9 ((x1.1, (0, x1.2.2))))
 (K9 x1)))))
theorem F13_eq (N : Nat) (x1 : (Int × (Int × (Int × (Int × (Int × (Bool × (Bool × (Int × Int))))))))) : g13' N x1 = F13 N x1 := by
  refine (e13 N x1).trans ?_
  simp only [F46_eq, F51_eq, F52_eq, F53_eq, F54_eq, F13]
def g14' (N : Nat) (x1 : Int) (x2 : Int) : Option (Bool) := f14 N (x1, x2)
theorem e14 (N : Nat) (x1 : Int) (x2 : Int) : g14' N x1 x2 =
  bindS (g46' N ) (fun (y0 : Bool) => br (!y0)
 (some Bool.false)
 (bindS (g55' N x1) (fun (y1 : (Int × Int × Int × Int × Int × Bool × Bool × Int × Int) × Int) => jp (fun (y2 : Bool) => br y2
 (some Bool.false)
 (bindS (g55' N ((Go.bits Go.BinOp.or IntKind.u32 (Go.bits Go.BinOp.and IntKind.u32 x1 267386880) 15))) (fun (y3 : (Int × Int × Int × Int × Int × Bool × Bool × Int × Int) × Int) => bindS (g55' N ((Go.bits Go.BinOp.or IntKind.u32
    (Go.bits Go.BinOp.or IntKind.u32 (Go.bits Go.BinOp.and IntKind.u32 x1 267386880) 15)
    (Go.bits Go.BinOp.and IntKind.u32 x2 1019776)))) (fun (y4 : (Int × Int × Int × Int × Int × Bool × Bool × Int × Int) × Int) => jp (fun (y5 : Bool) => some y5)
 (fun K6 => bindS (g46' N ) (fun (y7 : Bool) => br y7
 (br (Decidable.decide (y3.2 = 0))
 (br (Decidable.decide (y4.2 = 0))
 (br (((Ty.int IntKind.i64).pair
      ((Ty.int IntKind.i64).pair
        ((Ty.int IntKind.i64).pair
          ((Ty.int IntKind.i64).pair
            ((Ty.int IntKind.i64).pair
              (Ty.bool.pair
                (Ty.bool.pair ((Ty.int IntKind.i64).pair (Ty.int IntKind.i64))))))))).eq
  y3.1 y4.1)
 (K6 (Decidable.decide (y3.1.1 = 50)))
 (K6 Bool.false))
 (K6 Bool.false))
 (K6 Bool.false))
 (K6 Bool.false)))))))
 (fun K8 => br (Decidable.decide (y1.2 = 0))
 (bindS (g49' N y1.1.1) (fun (y9 : Int) => K8 (!Decidable.decide (Go.bits Go.BinOp.and IntKind.u32 x1 127 = y9))))
 (K8 Bool.false))))) := by kernel_rfl
def F14 (N : Nat) (x1 : Int) (x2 : Int) : Option (Bool) :=
  bindS (F46 N ) (fun (y0 : Bool) => br (!y0)
 (some Bool.false)
 (bindS (F55 N x1) (fun (y1 : (Int × Int × Int × Int × Int × Bool × Bool × Int × Int) × Int) => jp (fun (y2 : Bool) => br y2
 (some Bool.false)
 (bindS (F55 N ((Go.bits Go.BinOp.or IntKind.u32 (Go.bits Go.BinOp.and IntKind.u32 x1 267386880) 15))) (fun (y3 : (Int × Int × Int × Int × Int × Bool × Bool × Int × Int) × Int) => bindS (F55 N ((Go.bits Go.BinOp.or IntKind.u32
    (Go.bits Go.BinOp.or IntKind.u32 (Go.bits Go.BinOp.and IntKind.u32 x1 267386880) 15)
    (Go.bits Go.BinOp.and IntKind.u32 x2 1019776)))) (fun (y4 : (Int × Int × Int × Int × Int × Bool × Bool × Int × Int) × Int) => jp (fun (y5 : Bool) => some y5)
 (fun K6 => bindS (F46 N ) (fun (y7 : Bool) => br y7
 (br (Decidable.decide (y3.2 = 0))
 (br (Decidable.decide (y4.2 = 0))
 (br (((Ty.int IntKind.i64).pair
      ((Ty.int IntKind.i64).pair
        ((Ty.int IntKind.i64).pair
          ((Ty.int IntKind.i64).pair
            ((Ty.int IntKind.i64).pair
              (Ty.bool.pair
                (Ty.bool.pair ((Ty.int IntKind.i64).pair (Ty.int IntKind.i64))))))))).eq
  y3.1 y4.1)
 (K6 (Decidable.decide (y3.1.1 = 50)))
 (K6 Bool.false))
 (K6 Bool.false))
 (K6 Bool.false))
 (K6 Bool.false)))))))
 (fun K8 => br (Decidable.decide (y1.2 = 0))
 (bindS (F49 N y1.1.1) (fun (y9 : Int) => K8 (!Decidable.decide (Go.bits Go.BinOp.and IntKind.u32 x1 127 = y9))))
 (K8 Bool.false)))))
theorem F14_eq (N : Nat) (x1 : Int) (x2 : Int) : g14' N x1 x2 = F14 N x1 x2 := by
  refine (e14 N x1 x2).trans ?_
  simp only [F46_eq, F49_eq, F55_eq, F14]
end Go.Proofs.Ytipdancojcdioaa
