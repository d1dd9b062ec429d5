/- What the contracts' functions come to, as printed. No condition. -/
import Derived.Test.YtipdancojcdioaaConNm
import Derived.KernelRfl
namespace Go.Proofs.Ytipdancojcdioaa
open Go Go.Ev Go.Sh
set_option maxRecDepth 100000
set_option linter.unusedVariables false
def g16' (N : Nat) (x1 : List Int) : Option (List (Int × Bool) × List Int) := f16 N (x1)
theorem e16 (N : Nat) (x1 : List Int) : g16' N x1 =
  fixN N (fun again0 (y1 : Int × List (Int × Bool) × List Int) => br (Decidable.decide (y1.1 < 32))
 (chk (Decidable.decide (0 ≤ y1.1) && Decidable.decide (y1.1 < (↑32 : Int))) (chk (Decidable.decide (0 ≤ y1.1) && Decidable.decide (y1.1 < (↑32 : Int))) (chk (Decidable.decide (0 ≤ y1.1) && Decidable.decide (y1.1 < (↑44 : Int))) (again0 ((IntKind.i64.wrap (y1.1 + 1), (setD (0, Bool.false) y1.2.1 y1.1.toNat ((setD 0 x1 0 0).getD y1.1.toNat 0, Bool.true), setD 0 y1.2.2 y1.1.toNat y1.1)))))))
 (some ((y1.2.1, y1.2.2))))
 ((0, ([(0, Bool.false), (0, Bool.false), (0, Bool.false), (0, Bool.false), (0, Bool.false), (0, Bool.false), (0, Bool.false),
  (0, Bool.false), (0, Bool.false), (0, Bool.false), (0, Bool.false), (0, Bool.false), (0, Bool.false), (0, Bool.false),
  (0, Bool.false), (0, Bool.false), (0, Bool.false), (0, Bool.false), (0, Bool.false), (0, Bool.false), (0, Bool.false),
  (0, Bool.false), (0, Bool.false), (0, Bool.false), (0, Bool.false), (0, Bool.false), (0, Bool.false), (0, Bool.false),
  (0, Bool.false), (0, Bool.false), (0, Bool.false), (0, Bool.false), (0, Bool.false), (0, Bool.false), (0, Bool.false),
  (0, Bool.false), (0, Bool.false), (0, Bool.false), (0, Bool.false), (0, Bool.false), (0, Bool.false), (0, Bool.false),
  (0, Bool.false), (0, Bool.false)], [0, 0, 0, 0, 0, 0, 0, 0, 0, 0, 0, 0, 0, 0, 0, 0, 0, 0, 0, 0, 0, 0, 0, 0, 0, 0, 0, 0, 0, 0, 0, 0]))) := by kernel_rfl
def F16 (N : Nat) (x1 : List Int) : Option (List (Int × Bool) × List Int) :=
  fixN N (fun again0 (y1 : Int × List (Int × Bool) × List Int) => br (Decidable.decide (y1.1 < 32))
 (chk (Decidable.decide (0 ≤ y1.1) && Decidable.decide (y1.1 < (↑32 : Int))) (chk (Decidable.decide (0 ≤ y1.1) && Decidable.decide (y1.1 < (↑32 : Int))) (chk (Decidable.decide (0 ≤ y1.1) && Decidable.decide (y1.1 < (↑44 : Int))) (again0 ((IntKind.i64.wrap (y1.1 + 1), (setD (0, Bool.false) y1.2.1 y1.1.toNat ((setD 0 x1 0 0).getD y1.1.toNat 0, Bool.true), setD 0 y1.2.2 y1.1.toNat y1.1)))))))
 (some ((y1.2.1, y1.2.2))))
 ((0, ([(0, Bool.false), (0, Bool.false), (0, Bool.false), (0, Bool.false), (0, Bool.false), (0, Bool.false), (0, Bool.false),
  (0, Bool.false), (0, Bool.false), (0, Bool.false), (0, Bool.false), (0, Bool.false), (0, Bool.false), (0, Bool.false),
  (0, Bool.false), (0, Bool.false), (0, Bool.false), (0, Bool.false), (0, Bool.false), (0, Bool.false), (0, Bool.false),
  (0, Bool.false), (0, Bool.false), (0, Bool.false), (0, Bool.false), (0, Bool.false), (0, Bool.false), (0, Bool.false),
  (0, Bool.false), (0, Bool.false), (0, Bool.false), (0, Bool.false), (0, Bool.false), (0, Bool.false), (0, Bool.false),
  (0, Bool.false), (0, Bool.false), (0, Bool.false), (0, Bool.false), (0, Bool.false), (0, Bool.false), (0, Bool.false),
  (0, Bool.false), (0, Bool.false)], [0, 0, 0, 0, 0, 0, 0, 0, 0, 0, 0, 0, 0, 0, 0, 0, 0, 0, 0, 0, 0, 0, 0, 0, 0, 0, 0, 0, 0, 0, 0, 0])))
theorem F16_eq (N : Nat) (x1 : List Int) : g16' N x1 = F16 N x1 := by
  refine (e16 N x1).trans ?_
  rfl
def g56' (N : Nat) (x1 : Int) (x2 : List (Int × Bool)) (x3 : List Int) (x4 : List (Int × Int)) : Option (Bool) := f56 N (x1, x2, x3, x4)
theorem e56 (N : Nat) (x1 : Int) (x2 : List (Int × Bool)) (x3 : List Int) (x4 : List (Int × Int)) : g56' N x1 x2 x3 x4 =
  fixN N (fun again0 (y1 : Int) => br (Decidable.decide (y1 < 32))
 (chk (Decidable.decide (0 ≤ y1) && Decidable.decide (y1 < (↑32 : Int))) (br (Decidable.decide (x3.getD y1.toNat 0 = x1))
 (some Bool.false)
 (again0 (IntKind.i64.wrap (y1 + 1)))))
 (fixN N (fun again2 (y3 : Int) => br (Decidable.decide (y3 < (↑x4.length : Int)))
 (chk (Decidable.decide (0 ≤ y3) && Decidable.decide (y3 < (↑x4.length : Int))) (br (Decidable.decide ((x4.getD y3.toNat (0, 0)).2 = x1))
 (some Bool.false)
 (again2 (IntKind.i64.wrap (y3 + 1)))))
 (some Bool.true))
 0))
 0 := by kernel_rfl
def F56 (N : Nat) (x1 : Int) (x2 : List (Int × Bool)) (x3 : List Int) (x4 : List (Int × Int)) : Option (Bool) :=
  fixN N (fun again0 (y1 : Int) => br (Decidable.decide (y1 < 32))
 (chk (Decidable.decide (0 ≤ y1) && Decidable.decide (y1 < (↑32 : Int))) (br (Decidable.decide (x3.getD y1.toNat 0 = x1))
 (some Bool.false)
 (again0 (IntKind.i64.wrap (y1 + 1)))))
 (fixN N (fun again2 (y3 : Int) => br (Decidable.decide (y3 < (↑x4.length : Int)))
 (chk (Decidable.decide (0 ≤ y3) && Decidable.decide (y3 < (↑x4.length : Int))) (br (Decidable.decide ((x4.getD y3.toNat (0, 0)).2 = x1))
 (some Bool.false)
 (again2 (IntKind.i64.wrap (y3 + 1)))))
 (some Bool.true))
 0))
 0
theorem F56_eq (N : Nat) (x1 : Int) (x2 : List (Int × Bool)) (x3 : List Int) (x4 : List (Int × Int)) : g56' N x1 x2 x3 x4 = F56 N x1 x2 x3 x4 := by
  refine (e56 N x1 x2 x3 x4).trans ?_
  rfl
def g18' (N : Nat) (x1 : Int) (x2 : List (Int × Bool)) (x3 : List Int) (x4 : List (Int × Int)) : Option (Int × Bool × List (Int × Bool) × List Int × List (Int × Int)) := f18 N (x1, x2, x3, x4)
theorem e18 (N : Nat) (x1 : Int) (x2 : List (Int × Bool)) (x3 : List Int) (x4 : List (Int × Int)) : g18' N x1 x2 x3 x4 =
  jp (fun (y0 : Bool) => br y0
 (some ((0, (Bool.false, (x2, (x3, x4))))))
 (jp (fun (y1 : Int) => br (Decidable.decide (y1 < 0))
 (some ((0, (Bool.false, (x2, (x3, x4))))))
 (chk (Decidable.decide (0 ≤ y1) && Decidable.decide (y1 < (↑44 : Int))) (chk (Decidable.decide ((x4.length + [(x1, y1)].length) * 16 ≤ lim)) (some ((y1, (Bool.true, (setD (0, Bool.false) x2 y1.toNat (0, Bool.false), (x3, x4 ++ [(x1, y1)])))))))))
 (fun K2 => fixN N (fun again3 (y4 : Int × Int) => br (Decidable.decide (y4.2 < 44))
 (bindS (g56' N y4.2 x2 x3 x4) (fun (y5 : Bool) => br y5
 (K2 y4.2)
 (again3 ((y4.1, IntKind.i64.wrap (y4.2 + 1))))))
 (K2 y4.1))
 ((-1, 0)))))
 (fun K6 => br (Decidable.decide (x1 < 1))
 (K6 Bool.true)
 (K6 (Decidable.decide (32 ≤ x1)))) := by kernel_rfl
def F18 (N : Nat) (x1 : Int) (x2 : List (Int × Bool)) (x3 : List Int) (x4 : List (Int × Int)) : Option (Int × Bool × List (Int × Bool) × List Int × List (Int × Int)) :=
  jp (fun (y0 : Bool) => br y0
 (some ((0, (Bool.false, (x2, (x3, x4))))))
 (jp (fun (y1 : Int) => br (Decidable.decide (y1 < 0))
 (some ((0, (Bool.false, (x2, (x3, x4))))))
 (chk (Decidable.decide (0 ≤ y1) && Decidable.decide (y1 < (↑44 : Int))) (chk (Decidable.decide ((x4.length + [(x1, y1)].length) * 16 ≤ lim)) (some ((y1, (Bool.true, (setD (0, Bool.false) x2 y1.toNat (0, Bool.false), (x3, x4 ++ [(x1, y1)])))))))))
 (fun K2 => fixN N (fun again3 (y4 : Int × Int) => br (Decidable.decide (y4.2 < 44))
 (bindS (F56 N y4.2 x2 x3 x4) (fun (y5 : Bool) => br y5
 (K2 y4.2)
 (again3 ((y4.1, IntKind.i64.wrap (y4.2 + 1))))))
 (K2 y4.1))
 ((-1, 0)))))
 (fun K6 => br (Decidable.decide (x1 < 1))
 (K6 Bool.true)
 (K6 (Decidable.decide (32 ≤ x1))))
theorem F18_eq (N : Nat) (x1 : Int) (x2 : List (Int × Bool)) (x3 : List Int) (x4 : List (Int × Int)) : g18' N x1 x2 x3 x4 = F18 N x1 x2 x3 x4 := by
  refine (e18 N x1 x2 x3 x4).trans ?_
  simp only [F56_eq, F18]
def g17' (N : Nat) (x1 : List (Int × Bool)) (x2 : List Int) (x3 : List (Int × Int)) : Option (Int) := f17 N (x1, x2, x3)
theorem e17 (N : Nat) (x1 : List (Int × Bool)) (x2 : List Int) (x3 : List (Int × Int)) : g17' N x1 x2 x3 =
  some ((↑x3.length : Int)) := by kernel_rfl
def F17 (N : Nat) (x1 : List (Int × Bool)) (x2 : List Int) (x3 : List (Int × Int)) : Option (Int) :=
  some ((↑x3.length : Int))
theorem F17_eq (N : Nat) (x1 : List (Int × Bool)) (x2 : List Int) (x3 : List (Int × Int)) : g17' N x1 x2 x3 = F17 N x1 x2 x3 := by
  refine (e17 N x1 x2 x3).trans ?_
  rfl
def g21' (N : Nat) (x1 : List (Int × Bool)) (x2 : List Int) (x3 : List (Int × Int)) : Option (Bool × List (Int × Bool) × List Int × List (Int × Int)) := f21 N (x1, x2, x3)
theorem e21 (N : Nat) (x1 : List (Int × Bool)) (x2 : List Int) (x3 : List (Int × Int)) : g21' N x1 x2 x3 =
  bindS (g17' N x1 x2 x3) (fun (y0 : Int) => br (Decidable.decide (y0 = 0))
 (some ((Bool.false, (x1, (x2, x3)))))
 (chk (Decidable.decide (0 ≤ IntKind.i64.wrap ((↑x3.length : Int) - 1)) &&
        Decidable.decide (0 ≤ IntKind.i64.wrap ((↑x3.length : Int) - 1)) &&
      Nat.ble 0 (IntKind.i64.wrap ((↑x3.length : Int) - 1)).toNat &&
    (IntKind.i64.wrap ((↑x3.length : Int) - 1)).toNat.ble (IntKind.i64.wrap ((↑x3.length : Int) - 1)).toNat &&
  (IntKind.i64.wrap ((↑x3.length : Int) - 1)).toNat.ble x3.length) (chk (Decidable.decide
        ((IntKind.i64.wrap ((↑x3.length : Int) - 1)).toNat - 0 =
          (IntKind.i64.wrap ((↑x3.length : Int) - 1)).toNat - 0) &&
      Bool.true &&
    Bool.true &&
  Bool.true) (some ((Bool.true, (x1, (x2, List.take ((IntKind.i64.wrap ((↑x3.length : Int) - 1)).toNat - 0) (List.drop (0 + 0) x3))))))))) := by kernel_rfl
def F21 (N : Nat) (x1 : List (Int × Bool)) (x2 : List Int) (x3 : List (Int × Int)) : Option (Bool × List (Int × Bool) × List Int × List (Int × Int)) :=
  bindS (F17 N x1 x2 x3) (fun (y0 : Int) => br (Decidable.decide (y0 = 0))
 (some ((Bool.false, (x1, (x2, x3)))))
 (chk (Decidable.decide (0 ≤ IntKind.i64.wrap ((↑x3.length : Int) - 1)) &&
        Decidable.decide (0 ≤ IntKind.i64.wrap ((↑x3.length : Int) - 1)) &&
      Nat.ble 0 (IntKind.i64.wrap ((↑x3.length : Int) - 1)).toNat &&
    (IntKind.i64.wrap ((↑x3.length : Int) - 1)).toNat.ble (IntKind.i64.wrap ((↑x3.length : Int) - 1)).toNat &&
  (IntKind.i64.wrap ((↑x3.length : Int) - 1)).toNat.ble x3.length) (chk (Decidable.decide
        ((IntKind.i64.wrap ((↑x3.length : Int) - 1)).toNat - 0 =
          (IntKind.i64.wrap ((↑x3.length : Int) - 1)).toNat - 0) &&
      Bool.true &&
    Bool.true &&
  Bool.true) (some ((Bool.true, (x1, (x2, List.take ((IntKind.i64.wrap ((↑x3.length : Int) - 1)).toNat - 0) (List.drop (0 + 0) x3)))))))))
theorem F21_eq (N : Nat) (x1 : List (Int × Bool)) (x2 : List Int) (x3 : List (Int × Int)) : g21' N x1 x2 x3 = F21 N x1 x2 x3 := by
  refine (e21 N x1 x2 x3).trans ?_
  simp only [F17_eq, F21]
def g19' (N : Nat) (x1 : Int) (x2 : Int) (x3 : List (Int × Bool)) (x4 : List Int) (x5 : List (Int × Int)) : Option (Bool × List (Int × Bool) × List Int × List (Int × Int)) := f19 N (x1, x2, x3, x4, x5)
theorem e19 (N : Nat) (x1 : Int) (x2 : Int) (x3 : List (Int × Bool)) (x4 : List Int) (x5 : List (Int × Int)) : g19' N x1 x2 x3 x4 x5 =
  fixN N (fun again0 (y1 : Int) => br (Decidable.decide (y1 < (↑x5.length : Int)))
 (chk (Decidable.decide (0 ≤ y1) && Decidable.decide (y1 < (↑x5.length : Int))) (br (Decidable.decide ((x5.getD y1.toNat (0, 0)).2 = x1))
 (chk (Decidable.decide (0 ≤ x1) && Decidable.decide (x1 < (↑44 : Int))) (some ((Bool.true, (setD (0, Bool.false) x3 x1.toNat (x2, Bool.true), (x4, x5))))))
 (again0 (IntKind.i64.wrap (y1 + 1)))))
 (some ((Bool.false, (x3, (x4, x5))))))
 0 := by kernel_rfl
def F19 (N : Nat) (x1 : Int) (x2 : Int) (x3 : List (Int × Bool)) (x4 : List Int) (x5 : List (Int × Int)) : Option (Bool × List (Int × Bool) × List Int × List (Int × Int)) :=
  fixN N (fun again0 (y1 : Int) => br (Decidable.decide (y1 < (↑x5.length : Int)))
 (chk (Decidable.decide (0 ≤ y1) && Decidable.decide (y1 < (↑x5.length : Int))) (br (Decidable.decide ((x5.getD y1.toNat (0, 0)).2 = x1))
 (chk (Decidable.decide (0 ≤ x1) && Decidable.decide (x1 < (↑44 : Int))) (some ((Bool.true, (setD (0, Bool.false) x3 x1.toNat (x2, Bool.true), (x4, x5))))))
 (again0 (IntKind.i64.wrap (y1 + 1)))))
 (some ((Bool.false, (x3, (x4, x5))))))
 0
theorem F19_eq (N : Nat) (x1 : Int) (x2 : Int) (x3 : List (Int × Bool)) (x4 : List Int) (x5 : List (Int × Int)) : g19' N x1 x2 x3 x4 x5 = F19 N x1 x2 x3 x4 x5 := by
  refine (e19 N x1 x2 x3 x4 x5).trans ?_
  rfl
def g20' (N : Nat) (x1 : List (Int × Bool)) (x2 : List Int) (x3 : List (Int × Int)) : Option (Bool × List (Int × Bool) × List Int × List (Int × Int)) := f20 N (x1, x2, x3)
theorem e20 (N : Nat) (x1 : List (Int × Bool)) (x2 : List Int) (x3 : List (Int × Int)) : g20' N x1 x2 x3 =
  jp (fun (y0 : Bool) => br y0
 (some ((Bool.false, (x1, (x2, x3)))))
 (chk (Decidable.decide (0 < (↑x3.length : Int))) (chk (Decidable.decide (0 < (↑x3.length : Int))) (chk (Decidable.decide (0 ≤ (x3.getD 0 (0, 0)).1) && Decidable.decide ((x3.getD 0 (0, 0)).1 < (↑32 : Int))) (chk (Nat.ble 1 x3.length && x3.length.ble x3.length) (some ((Bool.true, (x1, (setD 0 x2 (Int.toNat (x3.getD 0 (0, 0)).1) (x3.getD 0 (0, 0)).2, List.take (x3.length - 1) (List.drop (0 + 1) x3)))))))))))
 (fun K1 => bindS (g17' N x1 x2 x3) (fun (y2 : Int) => br (Decidable.decide (y2 = 0))
 (K1 Bool.true)
 (chk (Decidable.decide (0 < (↑x3.length : Int))) (chk (Decidable.decide (0 ≤ (x3.getD 0 (0, 0)).2) && Decidable.decide ((x3.getD 0 (0, 0)).2 < (↑44 : Int))) (K1 (!(x1.getD (Int.toNat (x3.getD 0 (0, 0)).2) (0, Bool.false)).2)))))) := by kernel_rfl
def F20 (N : Nat) (x1 : List (Int × Bool)) (x2 : List Int) (x3 : List (Int × Int)) : Option (Bool × List (Int × Bool) × List Int × List (Int × Int)) :=
  jp (fun (y0 : Bool) => br y0
 (some ((Bool.false, (x1, (x2, x3)))))
 (chk (Decidable.decide (0 < (↑x3.length : Int))) (chk (Decidable.decide (0 < (↑x3.length : Int))) (chk (Decidable.decide (0 ≤ (x3.getD 0 (0, 0)).1) && Decidable.decide ((x3.getD 0 (0, 0)).1 < (↑32 : Int))) (chk (Nat.ble 1 x3.length && x3.length.ble x3.length) (some ((Bool.true, (x1, (setD 0 x2 (Int.toNat (x3.getD 0 (0, 0)).1) (x3.getD 0 (0, 0)).2, List.take (x3.length - 1) (List.drop (0 + 1) x3)))))))))))
 (fun K1 => bindS (F17 N x1 x2 x3) (fun (y2 : Int) => br (Decidable.decide (y2 = 0))
 (K1 Bool.true)
 (chk (Decidable.decide (0 < (↑x3.length : Int))) (chk (Decidable.decide (0 ≤ (x3.getD 0 (0, 0)).2) && Decidable.decide ((x3.getD 0 (0, 0)).2 < (↑44 : Int))) (K1 (!(x1.getD (Int.toNat (x3.getD 0 (0, 0)).2) (0, Bool.false)).2))))))
theorem F20_eq (N : Nat) (x1 : List (Int × Bool)) (x2 : List Int) (x3 : List (Int × Int)) : g20' N x1 x2 x3 = F20 N x1 x2 x3 := by
  refine (e20 N x1 x2 x3).trans ?_
  simp only [F17_eq, F20]
def g23' (N : Nat) (x1 : List (Int × Bool)) (x2 : List Int) (x3 : List (Int × Int)) : Option (List Int) := f23 N (x1, x2, x3)
theorem e23 (N : Nat) (x1 : List (Int × Bool)) (x2 : List Int) (x3 : List (Int × Int)) : g23' N x1 x2 x3 =
  fixN N (fun again0 (y1 : Int × List Int) => br (Decidable.decide (y1.1 < 32))
 (chk (Decidable.decide (0 ≤ y1.1) && Decidable.decide (y1.1 < (↑32 : Int))) (chk (Decidable.decide (0 ≤ x2.getD y1.1.toNat 0) && Decidable.decide (x2.getD y1.1.toNat 0 < (↑44 : Int))) (chk (Decidable.decide (0 ≤ y1.1) && Decidable.decide (y1.1 < (↑32 : Int))) (again0 ((IntKind.i64.wrap (y1.1 + 1), setD 0 y1.2 y1.1.toNat (x1.getD (Int.toNat (x2.getD y1.1.toNat 0)) (0, Bool.false)).1))))))
 (some y1.2))
 ((0, [0, 0, 0, 0, 0, 0, 0, 0, 0, 0, 0, 0, 0, 0, 0, 0, 0, 0, 0, 0, 0, 0, 0, 0, 0, 0, 0, 0, 0, 0, 0, 0])) := by kernel_rfl
def F23 (N : Nat) (x1 : List (Int × Bool)) (x2 : List Int) (x3 : List (Int × Int)) : Option (List Int) :=
  fixN N (fun again0 (y1 : Int × List Int) => br (Decidable.decide (y1.1 < 32))
 (chk (Decidable.decide (0 ≤ y1.1) && Decidable.decide (y1.1 < (↑32 : Int))) (chk (Decidable.decide (0 ≤ x2.getD y1.1.toNat 0) && Decidable.decide (x2.getD y1.1.toNat 0 < (↑44 : Int))) (chk (Decidable.decide (0 ≤ y1.1) && Decidable.decide (y1.1 < (↑32 : Int))) (again0 ((IntKind.i64.wrap (y1.1 + 1), setD 0 y1.2 y1.1.toNat (x1.getD (Int.toNat (x2.getD y1.1.toNat 0)) (0, Bool.false)).1))))))
 (some y1.2))
 ((0, [0, 0, 0, 0, 0, 0, 0, 0, 0, 0, 0, 0, 0, 0, 0, 0, 0, 0, 0, 0, 0, 0, 0, 0, 0, 0, 0, 0, 0, 0, 0, 0]))
theorem F23_eq (N : Nat) (x1 : List (Int × Bool)) (x2 : List Int) (x3 : List (Int × Int)) : g23' N x1 x2 x3 = F23 N x1 x2 x3 := by
  refine (e23 N x1 x2 x3).trans ?_
  rfl
def g22' (N : Nat) (x1 : Int) (x2 : List (Int × Bool)) (x3 : List Int) (x4 : List (Int × Int)) : Option (Int) := f22 N (x1, x2, x3, x4)
theorem e22 (N : Nat) (x1 : Int) (x2 : List (Int × Bool)) (x3 : List Int) (x4 : List (Int × Int)) : g22' N x1 x2 x3 x4 =
  jp (fun (y0 : Bool) => br y0
 (some 0)
 (fixN N (fun again1 (y2 : Int) => br (Decidable.decide (0 ≤ y2))
 (chk (Decidable.decide (0 ≤ y2) && Decidable.decide (y2 < (↑x4.length : Int))) (br (Decidable.decide ((x4.getD y2.toNat (0, 0)).1 = x1))
 (chk (Decidable.decide (0 ≤ y2) && Decidable.decide (y2 < (↑x4.length : Int))) (some ((x4.getD y2.toNat (0, 0)).2)))
 (again1 (IntKind.i64.wrap (y2 - 1)))))
 (chk (Decidable.decide (0 ≤ x1) && Decidable.decide (x1 < (↑32 : Int))) (some (x3.getD x1.toNat 0))))
 (IntKind.i64.wrap ((↑x4.length : Int) - 1))))
 (fun K3 => br (Decidable.decide (x1 < 0))
 (K3 Bool.true)
 (K3 (Decidable.decide (32 ≤ x1)))) := by kernel_rfl
def F22 (N : Nat) (x1 : Int) (x2 : List (Int × Bool)) (x3 : List Int) (x4 : List (Int × Int)) : Option (Int) :=
  jp (fun (y0 : Bool) => br y0
 (some 0)
 (fixN N (fun again1 (y2 : Int) => br (Decidable.decide (0 ≤ y2))
 (chk (Decidable.decide (0 ≤ y2) && Decidable.decide (y2 < (↑x4.length : Int))) (br (Decidable.decide ((x4.getD y2.toNat (0, 0)).1 = x1))
 (chk (Decidable.decide (0 ≤ y2) && Decidable.decide (y2 < (↑x4.length : Int))) (some ((x4.getD y2.toNat (0, 0)).2)))
 (again1 (IntKind.i64.wrap (y2 - 1)))))
 (chk (Decidable.decide (0 ≤ x1) && Decidable.decide (x1 < (↑32 : Int))) (some (x3.getD x1.toNat 0))))
 (IntKind.i64.wrap ((↑x4.length : Int) - 1))))
 (fun K3 => br (Decidable.decide (x1 < 0))
 (K3 Bool.true)
 (K3 (Decidable.decide (32 ≤ x1))))
theorem F22_eq (N : Nat) (x1 : Int) (x2 : List (Int × Bool)) (x3 : List Int) (x4 : List (Int × Int)) : g22' N x1 x2 x3 x4 = F22 N x1 x2 x3 x4 := by
  refine (e22 N x1 x2 x3 x4).trans ?_
  rfl
def g15' (N : Nat)  : Option (Bool) := f15 N ()
theorem e15 (N : Nat)  : g15' N  =
  bindS (g16' N ([0, 0, 0, 0, 0, 9, 0, 0, 0, 0, 0, 0, 0, 0, 0, 0, 0, 0, 0, 0, 0, 0, 0, 0, 0, 0, 0, 0, 0, 0, 0, 0])) (fun (y0 : List (Int × Bool) × List Int) => bindS (g18' N 5 y0.1 y0.2 ([])) (fun (y1 : Int × Bool × List (Int × Bool) × List Int × List (Int × Int)) => bindS (g18' N 5 y1.2.2.1 y1.2.2.2.1 y1.2.2.2.2) (fun (y2 : Int × Bool × List (Int × Bool) × List Int × List (Int × Int)) => bindS (g21' N y2.2.2.1 y2.2.2.2.1 y2.2.2.2.2) (fun (y3 : Bool × List (Int × Bool) × List Int × List (Int × Int)) => bindS (g19' N y1.1 7 y3.2.1 y3.2.2.1 y3.2.2.2) (fun (y4 : Bool × List (Int × Bool) × List Int × List (Int × Int)) => bindS (g20' N y4.2.1 y4.2.2.1 y4.2.2.2) (fun (y5 : Bool × List (Int × Bool) × List Int × List (Int × Int)) => bindS (g18' N 6 y5.2.1 y5.2.2.1 y5.2.2.2) (fun (y6 : Int × Bool × List (Int × Bool) × List Int × List (Int × Int)) => jp (fun (y7 : Bool) => some y7)
 (fun K8 => br y1.2.1
 (br y2.2.1
 (br y6.2.1
 (br y3.1
 (br y4.1
 (br y5.1
 (br (Decidable.decide (y1.1 = 32))
 (br (Decidable.decide (y2.1 = 33))
 (br (Decidable.decide (y6.1 = 5))
 (bindS (g23' N y6.2.2.1 y6.2.2.2.1 y6.2.2.2.2) (fun (y9 : List Int) => br (Decidable.decide (y9.getD 5 0 = 7))
 (bindS (g22' N 5 y6.2.2.1 y6.2.2.2.1 y6.2.2.2.2) (fun (y10 : Int) => br (Decidable.decide (y10 = 32))
 (bindS (g17' N y6.2.2.1 y6.2.2.2.1 y6.2.2.2.2) (fun (y11 : Int) => K8 (Decidable.decide (y11 = 1))))
 (K8 Bool.false)))
 (K8 Bool.false)))
 (K8 Bool.false))
 (K8 Bool.false))
 (K8 Bool.false))
 (K8 Bool.false))
 (K8 Bool.false))
 (K8 Bool.false))
 (K8 Bool.false))
 (K8 Bool.false))
 (K8 Bool.false))))))))) := by kernel_rfl
def F15 (N : Nat)  : Option (Bool) :=
  bindS (F16 N ([0, 0, 0, 0, 0, 9, 0, 0, 0, 0, 0, 0, 0, 0, 0, 0, 0, 0, 0, 0, 0, 0, 0, 0, 0, 0, 0, 0, 0, 0, 0, 0])) (fun (y0 : List (Int × Bool) × List Int) => bindS (F18 N 5 y0.1 y0.2 ([])) (fun (y1 : Int × Bool × List (Int × Bool) × List Int × List (Int × Int)) => bindS (F18 N 5 y1.2.2.1 y1.2.2.2.1 y1.2.2.2.2) (fun (y2 : Int × Bool × List (Int × Bool) × List Int × List (Int × Int)) => bindS (F21 N y2.2.2.1 y2.2.2.2.1 y2.2.2.2.2) (fun (y3 : Bool × List (Int × Bool) × List Int × List (Int × Int)) => bindS (F19 N y1.1 7 y3.2.1 y3.2.2.1 y3.2.2.2) (fun (y4 : Bool × List (Int × Bool) × List Int × List (Int × Int)) => bindS (F20 N y4.2.1 y4.2.2.1 y4.2.2.2) (fun (y5 : Bool × List (Int × Bool) × List Int × List (Int × Int)) => bindS (F18 N 6 y5.2.1 y5.2.2.1 y5.2.2.2) (fun (y6 : Int × Bool × List (Int × Bool) × List Int × List (Int × Int)) => jp (fun (y7 : Bool) => some y7)
 (fun K8 => br y1.2.1
 (br y2.2.1
 (br y6.2.1
 (br y3.1
 (br y4.1
 (br y5.1
 (br (Decidable.decide (y1.1 = 32))
 (br (Decidable.decide (y2.1 = 33))
 (br (Decidable.decide (y6.1 = 5))
 (bindS (F23 N y6.2.2.1 y6.2.2.2.1 y6.2.2.2.2) (fun (y9 : List Int) => br (Decidable.decide (y9.getD 5 0 = 7))
 (bindS (F22 N 5 y6.2.2.1 y6.2.2.2.1 y6.2.2.2.2) (fun (y10 : Int) => br (Decidable.decide (y10 = 32))
 (bindS (F17 N y6.2.2.1 y6.2.2.2.1 y6.2.2.2.2) (fun (y11 : Int) => K8 (Decidable.decide (y11 = 1))))
 (K8 Bool.false)))
 (K8 Bool.false)))
 (K8 Bool.false))
 (K8 Bool.false))
 (K8 Bool.false))
 (K8 Bool.false))
 (K8 Bool.false))
 (K8 Bool.false))
 (K8 Bool.false))
 (K8 Bool.false))
 (K8 Bool.false)))))))))
theorem F15_eq (N : Nat)  : g15' N  = F15 N  := by
  refine (e15 N ).trans ?_
  simp only [F16_eq, F17_eq, F18_eq, F19_eq, F20_eq, F21_eq, F22_eq, F23_eq, F15]
def g3' (N : Nat) (x1 : List Int) (x2 : List (Int × (Int × Int))) (x3 : List Int) : Option (Bool) := f3 N (x1, x2, x3)
theorem e3 (N : Nat) (x1 : List Int) (x2 : List (Int × (Int × Int))) (x3 : List Int) : g3' N x1 x2 x3 =
  bindS (g15' N ) (fun (y0 : Bool) => br (!y0)
 (some Bool.false)
 (bindS (g16' N x1) (fun (y1 : List (Int × Bool) × List Int) => fixN N (fun again2 (y3 : Int × List (Int × Bool) × List Int × List (Int × Int)) => jp (fun (y4 : Bool) => br y4
 (chk (Decidable.decide (0 ≤ y3.1) && Decidable.decide (y3.1 < (↑x2.length : Int))) (jp (fun (y5 : List (Int × Bool) × List Int × List (Int × Int)) => again2 ((IntKind.i64.wrap (y3.1 + 1), (y5.1, (y5.2.1, y5.2.2)))))
 (fun K6 => jp (fun (y7 : Bool) => br y7
 (bindS (g18' N ((x2.getD y3.1.toNat (0, 0, 0)).2.1) y3.2.1 y3.2.2.1 y3.2.2.2) (fun (y8 : Int × Bool × List (Int × Bool) × List Int × List (Int × Int)) => jp (fun (y9 : Bool) => br y9
 (some Bool.false)
 (bindS (g19' N y8.1 ((x2.getD y3.1.toNat (0, 0, 0)).2.2) y8.2.2.1 y8.2.2.2.1 y8.2.2.2.2) (fun (y10 : Bool × List (Int × Bool) × List Int × List (Int × Int)) => K6 ((y10.2.1, (y10.2.2.1, y10.2.2.2))))))
 (fun K11 => br (Decidable.decide (0 < (x2.getD y3.1.toNat (0, 0, 0)).2.1))
 (K11 (!y8.2.1 == Decidable.decide ((x2.getD y3.1.toNat (0, 0, 0)).2.1 < 32)))
 (K11 (!y8.2.1 == Bool.false)))))
 (br (Decidable.decide ((x2.getD y3.1.toNat (0, 0, 0)).1 = 2))
 (bindS (g20' N y3.2.1 y3.2.2.1 y3.2.2.2) (fun (y12 : Bool × List (Int × Bool) × List Int × List (Int × Int)) => K6 ((y12.2.1, (y12.2.2.1, y12.2.2.2)))))
 (br (Decidable.decide ((x2.getD y3.1.toNat (0, 0, 0)).1 = 3))
 (bindS (g21' N y3.2.1 y3.2.2.1 y3.2.2.2) (fun (y13 : Bool × List (Int × Bool) × List Int × List (Int × Int)) => K6 ((y13.2.1, (y13.2.2.1, y13.2.2.2)))))
 (K6 ((y3.2.1, (y3.2.2.1, y3.2.2.2)))))))
 (fun K14 => br (Decidable.decide ((x2.getD y3.1.toNat (0, 0, 0)).1 = 0))
 (bindS (g17' N y3.2.1 y3.2.2.1 y3.2.2.2) (fun (y15 : Int) => K14 (Decidable.decide (y15 < 12))))
 (K14 Bool.false)))))
 (fixN N (fun again16 (y17 : Int × List Int) => br (Decidable.decide (y17.1 < 32))
 (bindS (g22' N y17.1 y3.2.1 y3.2.2.1 y3.2.2.2) (fun (y18 : Int) => chk (Decidable.decide (0 ≤ y17.1) && Decidable.decide (y17.1 < (↑32 : Int))) (again16 ((IntKind.i64.wrap (y17.1 + 1), setD 0 y17.2 y17.1.toNat y18)))))
 (fixN N (fun again19 (y20 : Int × Int × List (Int × Bool) × List Int × List (Int × Int)) => jp (fun (y21 : Bool) => br y21
 (jp (fun (y22 : Int × List (Int × Bool) × List Int × List (Int × Int)) => again19 ((y22.1, (IntKind.i64.wrap (y20.2.1 + 1), (y22.2.1, (y22.2.2.1, y22.2.2.2))))))
 (fun K23 => chk (Decidable.decide (0 ≤ y20.2.1) && Decidable.decide (y20.2.1 < (↑x3.length : Int))) (bindS (g18' N ((IntKind.i64.wrap (x3.getD y20.2.1.toNat 0)).tmod 32) y20.2.2.1 y20.2.2.2.1 y20.2.2.2.2) (fun (y24 : Int × Bool × List (Int × Bool) × List Int × List (Int × Int)) => br y24.2.1
 (K23 ((IntKind.i64.wrap (y20.1 + 1), (y24.2.2.1, (y24.2.2.2.1, y24.2.2.2.2)))))
 (K23 ((y20.1, (y24.2.2.1, (y24.2.2.2.1, y24.2.2.2.2)))))))))
 (fixN N (fun again25 (y26 : Int × List (Int × Bool) × List Int × List (Int × Int)) => br (Decidable.decide (y26.1 < y20.1))
 (bindS (g21' N y26.2.1 y26.2.2.1 y26.2.2.2) (fun (y27 : Bool × List (Int × Bool) × List Int × List (Int × Int)) => br (!y27.1)
 (some Bool.false)
 (again25 ((IntKind.i64.wrap (y26.1 + 1), (y27.2.1, (y27.2.2.1, y27.2.2.2)))))))
 (fixN N (fun again28 (y29 : Int) => br (Decidable.decide (y29 < 32))
 (bindS (g22' N y29 y26.2.1 y26.2.2.1 y26.2.2.2) (fun (y30 : Int) => chk (Decidable.decide (0 ≤ y29) && Decidable.decide (y29 < (↑32 : Int))) (br (!Decidable.decide (y30 = y17.2.getD y29.toNat 0))
 (some Bool.false)
 (again28 (IntKind.i64.wrap (y29 + 1))))))
 (bindS (g15' N ) (fun (y31 : Bool) => some y31)))
 0))
 ((0, (y20.2.2.1, (y20.2.2.2.1, y20.2.2.2.2))))))
 (fun K32 => br (Decidable.decide (y20.2.1 < (↑x3.length : Int)))
 (bindS (g17' N y20.2.2.1 y20.2.2.2.1 y20.2.2.2.2) (fun (y33 : Int) => K32 (Decidable.decide (y33 < 12))))
 (K32 Bool.false)))
 ((0, (0, (y3.2.1, (y3.2.2.1, y3.2.2.2)))))))
 ((0, [0, 0, 0, 0, 0, 0, 0, 0, 0, 0, 0, 0, 0, 0, 0, 0, 0, 0, 0, 0, 0, 0, 0, 0, 0, 0, 0, 0, 0, 0, 0, 0]))))
 (fun K34 => br (Decidable.decide (y3.1 < (↑x2.length : Int)))
 (K34 (Decidable.decide (y3.1 < 60)))
 (K34 Bool.false)))
 ((0, (y1.1, (y1.2, []))))))) := by kernel_rfl
def F3 (N : Nat) (x1 : List Int) (x2 : List (Int × (Int × Int))) (x3 : List Int) : Option (Bool) :=
  bindS (F15 N ) (fun (y0 : Bool) => br (!y0)
 (some Bool.false)
 (bindS (F16 N x1) (fun (y1 : List (Int × Bool) × List Int) => fixN N (fun again2 (y3 : Int × List (Int × Bool) × List Int × List (Int × Int)) => jp (fun (y4 : Bool) => br y4
 (chk (Decidable.decide (0 ≤ y3.1) && Decidable.decide (y3.1 < (↑x2.length : Int))) (jp (fun (y5 : List (Int × Bool) × List Int × List (Int × Int)) => again2 ((IntKind.i64.wrap (y3.1 + 1), (y5.1, (y5.2.1, y5.2.2)))))
 (fun K6 => jp (fun (y7 : Bool) => br y7
 (bindS (F18 N ((x2.getD y3.1.toNat (0, 0, 0)).2.1) y3.2.1 y3.2.2.1 y3.2.2.2) (fun (y8 : Int × Bool × List (Int × Bool) × List Int × List (Int × Int)) => jp (fun (y9 : Bool) => br y9
 (some Bool.false)
 (bindS (F19 N y8.1 ((x2.getD y3.1.toNat (0, 0, 0)).2.2) y8.2.2.1 y8.2.2.2.1 y8.2.2.2.2) (fun (y10 : Bool × List (Int × Bool) × List Int × List (Int × Int)) => K6 ((y10.2.1, (y10.2.2.1, y10.2.2.2))))))
 (fun K11 => br (Decidable.decide (0 < (x2.getD y3.1.toNat (0, 0, 0)).2.1))
 (K11 (!y8.2.1 == Decidable.decide ((x2.getD y3.1.toNat (0, 0, 0)).2.1 < 32)))
 (K11 (!y8.2.1 == Bool.false)))))
 (br (Decidable.decide ((x2.getD y3.1.toNat (0, 0, 0)).1 = 2))
 (bindS (F20 N y3.2.1 y3.2.2.1 y3.2.2.2) (fun (y12 : Bool × List (Int × Bool) × List Int × List (Int × Int)) => K6 ((y12.2.1, (y12.2.2.1, y12.2.2.2)))))
 (br (Decidable.decide ((x2.getD y3.1.toNat (0, 0, 0)).1 = 3))
 (bindS (F21 N y3.2.1 y3.2.2.1 y3.2.2.2) (fun (y13 : Bool × List (Int × Bool) × List Int × List (Int × Int)) => K6 ((y13.2.1, (y13.2.2.1, y13.2.2.2)))))
 (K6 ((y3.2.1, (y3.2.2.1, y3.2.2.2)))))))
 (fun K14 => br (Decidable.decide ((x2.getD y3.1.toNat (0, 0, 0)).1 = 0))
 (bindS (F17 N y3.2.1 y3.2.2.1 y3.2.2.2) (fun (y15 : Int) => K14 (Decidable.decide (y15 < 12))))
 (K14 Bool.false)))))
 (fixN N (fun again16 (y17 : Int × List Int) => br (Decidable.decide (y17.1 < 32))
 (bindS (F22 N y17.1 y3.2.1 y3.2.2.1 y3.2.2.2) (fun (y18 : Int) => chk (Decidable.decide (0 ≤ y17.1) && Decidable.decide (y17.1 < (↑32 : Int))) (again16 ((IntKind.i64.wrap (y17.1 + 1), setD 0 y17.2 y17.1.toNat y18)))))
 (fixN N (fun again19 (y20 : Int × Int × List (Int × Bool) × List Int × List (Int × Int)) => jp (fun (y21 : Bool) => br y21
 (jp (fun (y22 : Int × List (Int × Bool) × List Int × List (Int × Int)) => again19 ((y22.1, (IntKind.i64.wrap (y20.2.1 + 1), (y22.2.1, (y22.2.2.1, y22.2.2.2))))))
 (fun K23 => chk (Decidable.decide (0 ≤ y20.2.1) && Decidable.decide (y20.2.1 < (↑x3.length : Int))) (bindS (F18 N ((IntKind.i64.wrap (x3.getD y20.2.1.toNat 0)).tmod 32) y20.2.2.1 y20.2.2.2.1 y20.2.2.2.2) (fun (y24 : Int × Bool × List (Int × Bool) × List Int × List (Int × Int)) => br y24.2.1
 (K23 ((IntKind.i64.wrap (y20.1 + 1), (y24.2.2.1, (y24.2.2.2.1, y24.2.2.2.2)))))
 (K23 ((y20.1, (y24.2.2.1, (y24.2.2.2.1, y24.2.2.2.2)))))))))
 (fixN N (fun again25 (y26 : Int × List (Int × Bool) × List Int × List (Int × Int)) => br (Decidable.decide (y26.1 < y20.1))
 (bindS (F21 N y26.2.1 y26.2.2.1 y26.2.2.2) (fun (y27 : Bool × List (Int × Bool) × List Int × List (Int × Int)) => br (!y27.1)
 (some Bool.false)
 (again25 ((IntKind.i64.wrap (y26.1 + 1), (y27.2.1, (y27.2.2.1, y27.2.2.2)))))))
 (fixN N (fun again28 (y29 : Int) => br (Decidable.decide (y29 < 32))
 (bindS (F22 N y29 y26.2.1 y26.2.2.1 y26.2.2.2) (fun (y30 : Int) => chk (Decidable.decide (0 ≤ y29) && Decidable.decide (y29 < (↑32 : Int))) (br (!Decidable.decide (y30 = y17.2.getD y29.toNat 0))
 (some Bool.false)
 (again28 (IntKind.i64.wrap (y29 + 1))))))
 (bindS (F15 N ) (fun (y31 : Bool) => some y31)))
 0))
 ((0, (y20.2.2.1, (y20.2.2.2.1, y20.2.2.2.2))))))
 (fun K32 => br (Decidable.decide (y20.2.1 < (↑x3.length : Int)))
 (bindS (F17 N y20.2.2.1 y20.2.2.2.1 y20.2.2.2.2) (fun (y33 : Int) => K32 (Decidable.decide (y33 < 12))))
 (K32 Bool.false)))
 ((0, (0, (y3.2.1, (y3.2.2.1, y3.2.2.2)))))))
 ((0, [0, 0, 0, 0, 0, 0, 0, 0, 0, 0, 0, 0, 0, 0, 0, 0, 0, 0, 0, 0, 0, 0, 0, 0, 0, 0, 0, 0, 0, 0, 0, 0]))))
 (fun K34 => br (Decidable.decide (y3.1 < (↑x2.length : Int)))
 (K34 (Decidable.decide (y3.1 < 60)))
 (K34 Bool.false)))
 ((0, (y1.1, (y1.2, [])))))))
theorem F3_eq (N : Nat) (x1 : List Int) (x2 : List (Int × (Int × Int))) (x3 : List Int) : g3' N x1 x2 x3 = F3 N x1 x2 x3 := by
  refine (e3 N x1 x2 x3).trans ?_
  simp only [F15_eq, F16_eq, F17_eq, F18_eq, F19_eq, F20_eq, F21_eq, F22_eq, F3]
def g4' (N : Nat) (x1 : List Int) (x2 : List Int) (x3 : List Int) : Option (Bool) := f4 N (x1, x2, x3)
theorem e4 (N : Nat) (x1 : List Int) (x2 : List Int) (x3 : List Int) : g4' N x1 x2 x3 =
  bindS (g15' N ) (fun (y0 : Bool) => br (!y0)
 (some Bool.false)
 (bindS (g16' N x1) (fun (y1 : List (Int × Bool) × List Int) => fixN N (fun again2 (y3 : Int × Int × List Int × List (Int × Bool) × List Int × List (Int × Int)) => jp (fun (y4 : Bool) => br y4
 (jp (fun (y5 : Int × List Int × List (Int × Bool) × List Int × List (Int × Int)) => again2 ((y5.1, (IntKind.i64.wrap (y3.2.1 + 1), (y5.2.1, (y5.2.2.1, (y5.2.2.2.1, y5.2.2.2.2)))))))
 (fun K6 => chk (Decidable.decide (0 ≤ y3.2.1) && Decidable.decide (y3.2.1 < (↑x2.length : Int))) (bindS (g18' N ((IntKind.i64.wrap (x2.getD y3.2.1.toNat 0)).tmod 32) y3.2.2.2.1 y3.2.2.2.2.1 y3.2.2.2.2.2) (fun (y7 : Int × Bool × List (Int × Bool) × List Int × List (Int × Int)) => br (!y7.2.1 == Decidable.decide (0 < (IntKind.i64.wrap (x2.getD y3.2.1.toNat 0)).tmod 32))
 (some Bool.false)
 (br (!y7.2.1)
 (K6 ((y3.1, (y3.2.2.1, (y7.2.2.1, (y7.2.2.2.1, y7.2.2.2.2))))))
 (chk (Decidable.decide (0 ≤ y3.2.1) && Decidable.decide (y3.2.1 < (↑x3.length : Int))) (bindS (g19' N y7.1 (x3.getD y3.2.1.toNat 0) y7.2.2.1 y7.2.2.2.1 y7.2.2.2.2) (fun (y8 : Bool × List (Int × Bool) × List Int × List (Int × Int)) => br (!y8.1)
 (some Bool.false)
 (chk (Decidable.decide (0 ≤ y3.2.1) && Decidable.decide (y3.2.1 < (↑x3.length : Int))) (chk (Decidable.decide (0 ≤ (IntKind.i64.wrap (x2.getD y3.2.1.toNat 0)).tmod 32) &&
  Decidable.decide ((IntKind.i64.wrap (x2.getD y3.2.1.toNat 0)).tmod 32 < (↑32 : Int))) (jp (fun (y9 : Bool) => br y9
 (fixN N (fun again10 (y11 : Int × List (Int × Bool) × List Int × List (Int × Int)) => br (Decidable.decide (0 < y11.1))
 (bindS (g20' N y11.2.1 y11.2.2.1 y11.2.2.2) (fun (y12 : Bool × List (Int × Bool) × List Int × List (Int × Int)) => br (!y12.1)
 (some Bool.false)
 (again10 ((IntKind.i64.wrap (y11.1 - 1), (y12.2.1, (y12.2.2.1, y12.2.2.2)))))))
 (K6 ((y11.1, (setD 0 y3.2.2.1 ((IntKind.i64.wrap (x2.getD y3.2.1.toNat 0)).tmod 32).toNat (x3.getD y3.2.1.toNat 0), (y11.2.1, (y11.2.2.1, y11.2.2.2)))))))
 ((IntKind.i64.wrap (y3.1 + 1), (y8.2.1, (y8.2.2.1, y8.2.2.2)))))
 (K6 ((IntKind.i64.wrap (y3.1 + 1), (setD 0 y3.2.2.1 ((IntKind.i64.wrap (x2.getD y3.2.1.toNat 0)).tmod 32).toNat (x3.getD y3.2.1.toNat 0), (y8.2.1, (y8.2.2.1, y8.2.2.2)))))))
 (fun K13 => br (Decidable.decide (IntKind.i64.wrap (y3.1 + 1) = 12))
 (K13 Bool.true)
 (chk (Decidable.decide (0 ≤ y3.2.1) && Decidable.decide (y3.2.1 < (↑x2.length : Int))) (K13 (Decidable.decide (127 < x2.getD y3.2.1.toNat 0))))))))))))))))
 (fixN N (fun again14 (y15 : Int × List (Int × Bool) × List Int × List (Int × Int)) => br (Decidable.decide (0 < y15.1))
 (bindS (g20' N y15.2.1 y15.2.2.1 y15.2.2.2) (fun (y16 : Bool × List (Int × Bool) × List Int × List (Int × Int)) => br (!y16.1)
 (some Bool.false)
 (again14 ((IntKind.i64.wrap (y15.1 - 1), (y16.2.1, (y16.2.2.1, y16.2.2.2)))))))
 (jp (fun (y17 : Bool) => some y17)
 (fun K18 => bindS (g15' N ) (fun (y19 : Bool) => br y19
 (bindS (g23' N y15.2.1 y15.2.2.1 y15.2.2.2) (fun (y20 : List Int) => br ((Ty.arr 32 (Ty.int IntKind.u64)).eq y20 y3.2.2.1)
 (bindS (g17' N y15.2.1 y15.2.2.1 y15.2.2.2) (fun (y21 : Int) => K18 (Decidable.decide (y21 = 0))))
 (K18 Bool.false)))
 (K18 Bool.false)))))
 ((y3.1, (y3.2.2.2.1, (y3.2.2.2.2.1, y3.2.2.2.2.2))))))
 (fun K22 => br (Decidable.decide (y3.2.1 < (↑x2.length : Int)))
 (br (Decidable.decide (y3.2.1 < (↑x3.length : Int)))
 (K22 (Decidable.decide (y3.2.1 < 60)))
 (K22 Bool.false))
 (K22 Bool.false)))
 ((0, (0, (setD 0 x1 0 0, (y1.1, (y1.2, []))))))))) := by kernel_rfl
def F4 (N : Nat) (x1 : List Int) (x2 : List Int) (x3 : List Int) : Option (Bool) :=
  bindS (F15 N ) (fun (y0 : Bool) => br (!y0)
 (some Bool.false)
 (bindS (F16 N x1) (fun (y1 : List (Int × Bool) × List Int) => fixN N (fun again2 (y3 : Int × Int × List Int × List (Int × Bool) × List Int × List (Int × Int)) => jp (fun (y4 : Bool) => br y4
 (jp (fun (y5 : Int × List Int × List (Int × Bool) × List Int × List (Int × Int)) => again2 ((y5.1, (IntKind.i64.wrap (y3.2.1 + 1), (y5.2.1, (y5.2.2.1, (y5.2.2.2.1, y5.2.2.2.2)))))))
 (fun K6 => chk (Decidable.decide (0 ≤ y3.2.1) && Decidable.decide (y3.2.1 < (↑x2.length : Int))) (bindS (F18 N ((IntKind.i64.wrap (x2.getD y3.2.1.toNat 0)).tmod 32) y3.2.2.2.1 y3.2.2.2.2.1 y3.2.2.2.2.2) (fun (y7 : Int × Bool × List (Int × Bool) × List Int × List (Int × Int)) => br (!y7.2.1 == Decidable.decide (0 < (IntKind.i64.wrap (x2.getD y3.2.1.toNat 0)).tmod 32))
 (some Bool.false)
 (br (!y7.2.1)
 (K6 ((y3.1, (y3.2.2.1, (y7.2.2.1, (y7.2.2.2.1, y7.2.2.2.2))))))
 (chk (Decidable.decide (0 ≤ y3.2.1) && Decidable.decide (y3.2.1 < (↑x3.length : Int))) (bindS (F19 N y7.1 (x3.getD y3.2.1.toNat 0) y7.2.2.1 y7.2.2.2.1 y7.2.2.2.2) (fun (y8 : Bool × List (Int × Bool) × List Int × List (Int × Int)) => br (!y8.1)
 (some Bool.false)
 (chk (Decidable.decide (0 ≤ y3.2.1) && Decidable.decide (y3.2.1 < (↑x3.length : Int))) (chk (Decidable.decide (0 ≤ (IntKind.i64.wrap (x2.getD y3.2.1.toNat 0)).tmod 32) &&
  Decidable.decide ((IntKind.i64.wrap (x2.getD y3.2.1.toNat 0)).tmod 32 < (↑32 : Int))) (jp (fun (y9 : Bool) => br y9
 (fixN N (fun again10 (y11 : Int × List (Int × Bool) × List Int × List (Int × Int)) => br (Decidable.decide (0 < y11.1))
 (bindS (F20 N y11.2.1 y11.2.2.1 y11.2.2.2) (fun (y12 : Bool × List (Int × Bool) × List Int × List (Int × Int)) => br (!y12.1)
 (some Bool.false)
 (again10 ((IntKind.i64.wrap (y11.1 - 1), (y12.2.1, (y12.2.2.1, y12.2.2.2)))))))
 (K6 ((y11.1, (setD 0 y3.2.2.1 ((IntKind.i64.wrap (x2.getD y3.2.1.toNat 0)).tmod 32).toNat (x3.getD y3.2.1.toNat 0), (y11.2.1, (y11.2.2.1, y11.2.2.2)))))))
 ((IntKind.i64.wrap (y3.1 + 1), (y8.2.1, (y8.2.2.1, y8.2.2.2)))))
 (K6 ((IntKind.i64.wrap (y3.1 + 1), (setD 0 y3.2.2.1 ((IntKind.i64.wrap (x2.getD y3.2.1.toNat 0)).tmod 32).toNat (x3.getD y3.2.1.toNat 0), (y8.2.1, (y8.2.2.1, y8.2.2.2)))))))
 (fun K13 => br (Decidable.decide (IntKind.i64.wrap (y3.1 + 1) = 12))
 (K13 Bool.true)
 (chk (Decidable.decide (0 ≤ y3.2.1) && Decidable.decide (y3.2.1 < (↑x2.length : Int))) (K13 (Decidable.decide (127 < x2.getD y3.2.1.toNat 0))))))))))))))))
 (fixN N (fun again14 (y15 : Int × List (Int × Bool) × List Int × List (Int × Int)) => br (Decidable.decide (0 < y15.1))
 (bindS (F20 N y15.2.1 y15.2.2.1 y15.2.2.2) (fun (y16 : Bool × List (Int × Bool) × List Int × List (Int × Int)) => br (!y16.1)
 (some Bool.false)
 (again14 ((IntKind.i64.wrap (y15.1 - 1), (y16.2.1, (y16.2.2.1, y16.2.2.2)))))))
 (jp (fun (y17 : Bool) => some y17)
 (fun K18 => bindS (F15 N ) (fun (y19 : Bool) => br y19
 (bindS (F23 N y15.2.1 y15.2.2.1 y15.2.2.2) (fun (y20 : List Int) => br ((Ty.arr 32 (Ty.int IntKind.u64)).eq y20 y3.2.2.1)
 (bindS (F17 N y15.2.1 y15.2.2.1 y15.2.2.2) (fun (y21 : Int) => K18 (Decidable.decide (y21 = 0))))
 (K18 Bool.false)))
 (K18 Bool.false)))))
 ((y3.1, (y3.2.2.2.1, (y3.2.2.2.2.1, y3.2.2.2.2.2))))))
 (fun K22 => br (Decidable.decide (y3.2.1 < (↑x2.length : Int)))
 (br (Decidable.decide (y3.2.1 < (↑x3.length : Int)))
 (K22 (Decidable.decide (y3.2.1 < 60)))
 (K22 Bool.false))
 (K22 Bool.false)))
 ((0, (0, (setD 0 x1 0 0, (y1.1, (y1.2, [])))))))))
theorem F4_eq (N : Nat) (x1 : List Int) (x2 : List Int) (x3 : List Int) : g4' N x1 x2 x3 = F4 N x1 x2 x3 := by
  refine (e4 N x1 x2 x3).trans ?_
  simp only [F15_eq, F16_eq, F17_eq, F18_eq, F19_eq, F20_eq, F23_eq, F4]
def g28' (N : Nat) (x1 : List Int) : Option (List (Int × (Int × (Int × Bool)))) := f28 N (x1)
theorem e28 (N : Nat) (x1 : List Int) : g28' N x1 =
  fixN N (fun again0 (y1 : Int × List (Int × Int × Int × Bool)) => br (Decidable.decide (y1.1 < 32))
 (chk (Decidable.decide (0 ≤ y1.1) && Decidable.decide (y1.1 < (↑32 : Int))) (chk (Decidable.decide (0 ≤ y1.1) && Decidable.decide (y1.1 < (↑32 : Int))) (again0 ((IntKind.i64.wrap (y1.1 + 1), setD (0, 0, 0, Bool.false) y1.2 y1.1.toNat (y1.1, y1.1, x1.getD y1.1.toNat 0, Bool.true))))))
 (some (setD (0, 0, 0, Bool.false) y1.2 0
  ((y1.2.getD 0 (0, 0, 0, Bool.false)).1, (y1.2.getD 0 (0, 0, 0, Bool.false)).2.1, 0,
    (y1.2.getD 0 (0, 0, 0, Bool.false)).2.2.2))))
 ((0, [(0, 0, 0, Bool.false), (0, 0, 0, Bool.false), (0, 0, 0, Bool.false), (0, 0, 0, Bool.false), (0, 0, 0, Bool.false),
  (0, 0, 0, Bool.false), (0, 0, 0, Bool.false), (0, 0, 0, Bool.false), (0, 0, 0, Bool.false), (0, 0, 0, Bool.false),
  (0, 0, 0, Bool.false), (0, 0, 0, Bool.false), (0, 0, 0, Bool.false), (0, 0, 0, Bool.false), (0, 0, 0, Bool.false),
  (0, 0, 0, Bool.false), (0, 0, 0, Bool.false), (0, 0, 0, Bool.false), (0, 0, 0, Bool.false), (0, 0, 0, Bool.false),
  (0, 0, 0, Bool.false), (0, 0, 0, Bool.false), (0, 0, 0, Bool.false), (0, 0, 0, Bool.false), (0, 0, 0, Bool.false),
  (0, 0, 0, Bool.false), (0, 0, 0, Bool.false), (0, 0, 0, Bool.false), (0, 0, 0, Bool.false), (0, 0, 0, Bool.false),
  (0, 0, 0, Bool.false), (0, 0, 0, Bool.false)])) := by kernel_rfl
def F28 (N : Nat) (x1 : List Int) : Option (List (Int × (Int × (Int × Bool)))) :=
  fixN N (fun again0 (y1 : Int × List (Int × Int × Int × Bool)) => br (Decidable.decide (y1.1 < 32))
 (chk (Decidable.decide (0 ≤ y1.1) && Decidable.decide (y1.1 < (↑32 : Int))) (chk (Decidable.decide (0 ≤ y1.1) && Decidable.decide (y1.1 < (↑32 : Int))) (again0 ((IntKind.i64.wrap (y1.1 + 1), setD (0, 0, 0, Bool.false) y1.2 y1.1.toNat (y1.1, y1.1, x1.getD y1.1.toNat 0, Bool.true))))))
 (some (setD (0, 0, 0, Bool.false) y1.2 0
  ((y1.2.getD 0 (0, 0, 0, Bool.false)).1, (y1.2.getD 0 (0, 0, 0, Bool.false)).2.1, 0,
    (y1.2.getD 0 (0, 0, 0, Bool.false)).2.2.2))))
 ((0, [(0, 0, 0, Bool.false), (0, 0, 0, Bool.false), (0, 0, 0, Bool.false), (0, 0, 0, Bool.false), (0, 0, 0, Bool.false),
  (0, 0, 0, Bool.false), (0, 0, 0, Bool.false), (0, 0, 0, Bool.false), (0, 0, 0, Bool.false), (0, 0, 0, Bool.false),
  (0, 0, 0, Bool.false), (0, 0, 0, Bool.false), (0, 0, 0, Bool.false), (0, 0, 0, Bool.false), (0, 0, 0, Bool.false),
  (0, 0, 0, Bool.false), (0, 0, 0, Bool.false), (0, 0, 0, Bool.false), (0, 0, 0, Bool.false), (0, 0, 0, Bool.false),
  (0, 0, 0, Bool.false), (0, 0, 0, Bool.false), (0, 0, 0, Bool.false), (0, 0, 0, Bool.false), (0, 0, 0, Bool.false),
  (0, 0, 0, Bool.false), (0, 0, 0, Bool.false), (0, 0, 0, Bool.false), (0, 0, 0, Bool.false), (0, 0, 0, Bool.false),
  (0, 0, 0, Bool.false), (0, 0, 0, Bool.false)]))
theorem F28_eq (N : Nat) (x1 : List Int) : g28' N x1 = F28 N x1 := by
  refine (e28 N x1).trans ?_
  rfl
def g60' (N : Nat) (x1 : Int) (x2 : List (Int × (Int × (Int × Bool)))) (x3 : List (Int × (Int × (Int × Bool)))) : Option ((Int × (Int × (Int × Bool))) × Bool) := f60 N (x1, x2, x3)
theorem e60 (N : Nat) (x1 : Int) (x2 : List (Int × (Int × (Int × Bool)))) (x3 : List (Int × (Int × (Int × Bool)))) : g60' N x1 x2 x3 =
  fixN N (fun again0 (y1 : Int) => br (Decidable.decide (y1 < 32))
 (chk (Decidable.decide (0 ≤ y1) && Decidable.decide (y1 < (↑32 : Int))) (br (Decidable.decide ((x2.getD y1.toNat (0, 0, 0, Bool.false)).2.1 = x1))
 (chk (Decidable.decide (0 ≤ y1) && Decidable.decide (y1 < (↑32 : Int))) (some ((x2.getD y1.toNat (0, 0, 0, Bool.false), Bool.true))))
 (again0 (IntKind.i64.wrap (y1 + 1)))))
 (fixN N (fun again2 (y3 : Int) => br (Decidable.decide (y3 < (↑x3.length : Int)))
 (chk (Decidable.decide (0 ≤ y3) && Decidable.decide (y3 < (↑x3.length : Int))) (br (Decidable.decide ((x3.getD y3.toNat (0, 0, 0, Bool.false)).2.1 = x1))
 (chk (Decidable.decide (0 ≤ y3) && Decidable.decide (y3 < (↑x3.length : Int))) (some ((x3.getD y3.toNat (0, 0, 0, Bool.false), Bool.true))))
 (again2 (IntKind.i64.wrap (y3 + 1)))))
 (some (((0, (0, (0, Bool.false))), Bool.false))))
 0))
 0 := by kernel_rfl
def F60 (N : Nat) (x1 : Int) (x2 : List (Int × (Int × (Int × Bool)))) (x3 : List (Int × (Int × (Int × Bool)))) : Option ((Int × (Int × (Int × Bool))) × Bool) :=
  fixN N (fun again0 (y1 : Int) => br (Decidable.decide (y1 < 32))
 (chk (Decidable.decide (0 ≤ y1) && Decidable.decide (y1 < (↑32 : Int))) (br (Decidable.decide ((x2.getD y1.toNat (0, 0, 0, Bool.false)).2.1 = x1))
 (chk (Decidable.decide (0 ≤ y1) && Decidable.decide (y1 < (↑32 : Int))) (some ((x2.getD y1.toNat (0, 0, 0, Bool.false), Bool.true))))
 (again0 (IntKind.i64.wrap (y1 + 1)))))
 (fixN N (fun again2 (y3 : Int) => br (Decidable.decide (y3 < (↑x3.length : Int)))
 (chk (Decidable.decide (0 ≤ y3) && Decidable.decide (y3 < (↑x3.length : Int))) (br (Decidable.decide ((x3.getD y3.toNat (0, 0, 0, Bool.false)).2.1 = x1))
 (chk (Decidable.decide (0 ≤ y3) && Decidable.decide (y3 < (↑x3.length : Int))) (some ((x3.getD y3.toNat (0, 0, 0, Bool.false), Bool.true))))
 (again2 (IntKind.i64.wrap (y3 + 1)))))
 (some (((0, (0, (0, Bool.false))), Bool.false))))
 0))
 0
theorem F60_eq (N : Nat) (x1 : Int) (x2 : List (Int × (Int × (Int × Bool)))) (x3 : List (Int × (Int × (Int × Bool)))) : g60' N x1 x2 x3 = F60 N x1 x2 x3 := by
  refine (e60 N x1 x2 x3).trans ?_
  rfl
def g29' (N : Nat) (x1 : Int) (x2 : List (Int × (Int × (Int × Bool)))) (x3 : List (Int × (Int × (Int × Bool)))) : Option (Int × Bool × List (Int × (Int × (Int × Bool))) × List (Int × (Int × (Int × Bool)))) := f29 N (x1, x2, x3)
theorem e29 (N : Nat) (x1 : Int) (x2 : List (Int × (Int × (Int × Bool)))) (x3 : List (Int × (Int × (Int × Bool)))) : g29' N x1 x2 x3 =
  jp (fun (y0 : Bool) => br y0
 (some ((0, (Bool.false, (x2, x3)))))
 (fixN N (fun again1 (y2 : Int) => br (Decidable.decide (y2 < 44))
 (bindS (g60' N y2 x2 x3) (fun (y3 : (Int × Int × Int × Bool) × Bool) => br (!y3.2)
 (chk (Decidable.decide ((x3.length + [(x1, y2, 0, Bool.false)].length) * 32 ≤ lim)) (some ((y2, (Bool.true, (x2, x3 ++ [(x1, y2, 0, Bool.false)]))))))
 (again1 (IntKind.i64.wrap (y2 + 1)))))
 (some ((0, (Bool.false, (x2, x3))))))
 0))
 (fun K4 => br (Decidable.decide (x1 < 1))
 (K4 Bool.true)
 (K4 (Decidable.decide (31 < x1)))) := by kernel_rfl
def F29 (N : Nat) (x1 : Int) (x2 : List (Int × (Int × (Int × Bool)))) (x3 : List (Int × (Int × (Int × Bool)))) : Option (Int × Bool × List (Int × (Int × (Int × Bool))) × List (Int × (Int × (Int × Bool)))) :=
  jp (fun (y0 : Bool) => br y0
 (some ((0, (Bool.false, (x2, x3)))))
 (fixN N (fun again1 (y2 : Int) => br (Decidable.decide (y2 < 44))
 (bindS (F60 N y2 x2 x3) (fun (y3 : (Int × Int × Int × Bool) × Bool) => br (!y3.2)
 (chk (Decidable.decide ((x3.length + [(x1, y2, 0, Bool.false)].length) * 32 ≤ lim)) (some ((y2, (Bool.true, (x2, x3 ++ [(x1, y2, 0, Bool.false)]))))))
 (again1 (IntKind.i64.wrap (y2 + 1)))))
 (some ((0, (Bool.false, (x2, x3))))))
 0))
 (fun K4 => br (Decidable.decide (x1 < 1))
 (K4 Bool.true)
 (K4 (Decidable.decide (31 < x1))))
theorem F29_eq (N : Nat) (x1 : Int) (x2 : List (Int × (Int × (Int × Bool)))) (x3 : List (Int × (Int × (Int × Bool)))) : g29' N x1 x2 x3 = F29 N x1 x2 x3 := by
  refine (e29 N x1 x2 x3).trans ?_
  simp only [F60_eq, F29]
def g30' (N : Nat) (x1 : Int) (x2 : Int) (x3 : List (Int × (Int × (Int × Bool)))) (x4 : List (Int × (Int × (Int × Bool)))) : Option (Bool × List (Int × (Int × (Int × Bool))) × List (Int × (Int × (Int × Bool)))) := f30 N (x1, x2, x3, x4)
theorem e30 (N : Nat) (x1 : Int) (x2 : Int) (x3 : List (Int × (Int × (Int × Bool)))) (x4 : List (Int × (Int × (Int × Bool)))) : g30' N x1 x2 x3 x4 =
  fixN N (fun again0 (y1 : Int) => br (Decidable.decide (y1 < (↑x4.length : Int)))
 (chk (Decidable.decide (0 ≤ y1) && Decidable.decide (y1 < (↑x4.length : Int))) (br (Decidable.decide ((x4.getD y1.toNat (0, 0, 0, Bool.false)).2.1 = x1))
 (chk (Decidable.decide (0 ≤ y1) && Decidable.decide (y1 < (↑x4.length : Int))) (chk (Decidable.decide (0 ≤ y1) &&
  Decidable.decide
    (y1 <
      (↑(x4.set y1.toNat
              ((x4.getD y1.toNat (0, 0, 0, Bool.false)).1, (x4.getD y1.toNat (0, 0, 0, Bool.false)).2.1, x2,
                (x4.getD y1.toNat (0, 0, 0, Bool.false)).2.2.2)).length :
        Int))) (some ((Bool.true, (x3, (x4.set y1.toNat
      ((x4.getD y1.toNat (0, 0, 0, Bool.false)).1, (x4.getD y1.toNat (0, 0, 0, Bool.false)).2.1, x2,
        (x4.getD y1.toNat (0, 0, 0, Bool.false)).2.2.2)).set
  y1.toNat
  (((x4.set y1.toNat
            ((x4.getD y1.toNat (0, 0, 0, Bool.false)).1, (x4.getD y1.toNat (0, 0, 0, Bool.false)).2.1, x2,
              (x4.getD y1.toNat (0, 0, 0, Bool.false)).2.2.2)).getD
        y1.toNat (0, 0, 0, Bool.false)).1,
    ((x4.set y1.toNat
              ((x4.getD y1.toNat (0, 0, 0, Bool.false)).1, (x4.getD y1.toNat (0, 0, 0, Bool.false)).2.1, x2,
                (x4.getD y1.toNat (0, 0, 0, Bool.false)).2.2.2)).getD
          y1.toNat (0, 0, 0, Bool.false)).2.1,
    ((x4.set y1.toNat
                ((x4.getD y1.toNat (0, 0, 0, Bool.false)).1, (x4.getD y1.toNat (0, 0, 0, Bool.false)).2.1, x2,
                  (x4.getD y1.toNat (0, 0, 0, Bool.false)).2.2.2)).getD
            y1.toNat (0, 0, 0, Bool.false)).2.2.1,
    Bool.true)))))))
 (again0 (IntKind.i64.wrap (y1 + 1)))))
 (some ((Bool.false, (x3, x4)))))
 0 := by kernel_rfl
def F30 (N : Nat) (x1 : Int) (x2 : Int) (x3 : List (Int × (Int × (Int × Bool)))) (x4 : List (Int × (Int × (Int × Bool)))) : Option (Bool × List (Int × (Int × (Int × Bool))) × List (Int × (Int × (Int × Bool)))) :=
  fixN N (fun again0 (y1 : Int) => br (Decidable.decide (y1 < (↑x4.length : Int)))
 (chk (Decidable.decide (0 ≤ y1) && Decidable.decide (y1 < (↑x4.length : Int))) (br (Decidable.decide ((x4.getD y1.toNat (0, 0, 0, Bool.false)).2.1 = x1))
 (chk (Decidable.decide (0 ≤ y1) && Decidable.decide (y1 < (↑x4.length : Int))) (chk (Decidable.decide (0 ≤ y1) &&
  Decidable.decide
    (y1 <
      (↑(x4.set y1.toNat
              ((x4.getD y1.toNat (0, 0, 0, Bool.false)).1, (x4.getD y1.toNat (0, 0, 0, Bool.false)).2.1, x2,
                (x4.getD y1.toNat (0, 0, 0, Bool.false)).2.2.2)).length :
        Int))) (some ((Bool.true, (x3, (x4.set y1.toNat
      ((x4.getD y1.toNat (0, 0, 0, Bool.false)).1, (x4.getD y1.toNat (0, 0, 0, Bool.false)).2.1, x2,
        (x4.getD y1.toNat (0, 0, 0, Bool.false)).2.2.2)).set
  y1.toNat
  (((x4.set y1.toNat
            ((x4.getD y1.toNat (0, 0, 0, Bool.false)).1, (x4.getD y1.toNat (0, 0, 0, Bool.false)).2.1, x2,
              (x4.getD y1.toNat (0, 0, 0, Bool.false)).2.2.2)).getD
        y1.toNat (0, 0, 0, Bool.false)).1,
    ((x4.set y1.toNat
              ((x4.getD y1.toNat (0, 0, 0, Bool.false)).1, (x4.getD y1.toNat (0, 0, 0, Bool.false)).2.1, x2,
                (x4.getD y1.toNat (0, 0, 0, Bool.false)).2.2.2)).getD
          y1.toNat (0, 0, 0, Bool.false)).2.1,
    ((x4.set y1.toNat
                ((x4.getD y1.toNat (0, 0, 0, Bool.false)).1, (x4.getD y1.toNat (0, 0, 0, Bool.false)).2.1, x2,
                  (x4.getD y1.toNat (0, 0, 0, Bool.false)).2.2.2)).getD
            y1.toNat (0, 0, 0, Bool.false)).2.2.1,
    Bool.true)))))))
 (again0 (IntKind.i64.wrap (y1 + 1)))))
 (some ((Bool.false, (x3, x4)))))
 0
theorem F30_eq (N : Nat) (x1 : Int) (x2 : Int) (x3 : List (Int × (Int × (Int × Bool)))) (x4 : List (Int × (Int × (Int × Bool)))) : g30' N x1 x2 x3 x4 = F30 N x1 x2 x3 x4 := by
  refine (e30 N x1 x2 x3 x4).trans ?_
  rfl
def g31' (N : Nat) (x1 : List (Int × (Int × (Int × Bool)))) (x2 : List (Int × (Int × (Int × Bool)))) : Option (Bool × List (Int × (Int × (Int × Bool))) × List (Int × (Int × (Int × Bool)))) := f31 N (x1, x2)
theorem e31 (N : Nat) (x1 : List (Int × (Int × (Int × Bool)))) (x2 : List (Int × (Int × (Int × Bool)))) : g31' N x1 x2 =
  jp (fun (y0 : Bool) => br y0
 (some ((Bool.false, (x1, x2))))
 (chk (Decidable.decide (0 < (↑x2.length : Int))) (chk (Decidable.decide (0 < (↑x2.length : Int))) (chk (Decidable.decide (0 ≤ (x2.getD 0 (0, 0, 0, Bool.false)).1) &&
  Decidable.decide ((x2.getD 0 (0, 0, 0, Bool.false)).1 < (↑32 : Int))) (chk (Nat.ble 1 x2.length && x2.length.ble x2.length) (some ((Bool.true, (setD (0, 0, 0, Bool.false) x1 (Int.toNat (x2.getD 0 (0, 0, 0, Bool.false)).1) (x2.getD 0 (0, 0, 0, Bool.false)), List.take (x2.length - 1) (List.drop (0 + 1) x2))))))))))
 (fun K1 => br (Decidable.decide ((↑x2.length : Int) = 0))
 (K1 Bool.true)
 (chk (Decidable.decide (0 < (↑x2.length : Int))) (K1 (!(x2.getD 0 (0, 0, 0, Bool.false)).2.2.2)))) := by kernel_rfl
def F31 (N : Nat) (x1 : List (Int × (Int × (Int × Bool)))) (x2 : List (Int × (Int × (Int × Bool)))) : Option (Bool × List (Int × (Int × (Int × Bool))) × List (Int × (Int × (Int × Bool)))) :=
  jp (fun (y0 : Bool) => br y0
 (some ((Bool.false, (x1, x2))))
 (chk (Decidable.decide (0 < (↑x2.length : Int))) (chk (Decidable.decide (0 < (↑x2.length : Int))) (chk (Decidable.decide (0 ≤ (x2.getD 0 (0, 0, 0, Bool.false)).1) &&
  Decidable.decide ((x2.getD 0 (0, 0, 0, Bool.false)).1 < (↑32 : Int))) (chk (Nat.ble 1 x2.length && x2.length.ble x2.length) (some ((Bool.true, (setD (0, 0, 0, Bool.false) x1 (Int.toNat (x2.getD 0 (0, 0, 0, Bool.false)).1) (x2.getD 0 (0, 0, 0, Bool.false)), List.take (x2.length - 1) (List.drop (0 + 1) x2))))))))))
 (fun K1 => br (Decidable.decide ((↑x2.length : Int) = 0))
 (K1 Bool.true)
 (chk (Decidable.decide (0 < (↑x2.length : Int))) (K1 (!(x2.getD 0 (0, 0, 0, Bool.false)).2.2.2))))
theorem F31_eq (N : Nat) (x1 : List (Int × (Int × (Int × Bool)))) (x2 : List (Int × (Int × (Int × Bool)))) : g31' N x1 x2 = F31 N x1 x2 := by
  refine (e31 N x1 x2).trans ?_
  rfl
def g32' (N : Nat) (x1 : List (Int × (Int × (Int × Bool)))) (x2 : List (Int × (Int × (Int × Bool)))) : Option (Bool × List (Int × (Int × (Int × Bool))) × List (Int × (Int × (Int × Bool)))) := f32 N (x1, x2)
theorem e32 (N : Nat) (x1 : List (Int × (Int × (Int × Bool)))) (x2 : List (Int × (Int × (Int × Bool)))) : g32' N x1 x2 =
  br (Decidable.decide ((↑x2.length : Int) = 0))
 (some ((Bool.false, (x1, x2))))
 (chk (Decidable.decide (0 ≤ IntKind.i64.wrap ((↑x2.length : Int) - 1)) &&
    Nat.ble 0 (IntKind.i64.wrap ((↑x2.length : Int) - 1)).toNat &&
  (IntKind.i64.wrap ((↑x2.length : Int) - 1)).toNat.ble x2.length) (some ((Bool.true, (x1, List.take ((IntKind.i64.wrap ((↑x2.length : Int) - 1)).toNat - 0) (List.drop (0 + 0) x2)))))) := by kernel_rfl
def F32 (N : Nat) (x1 : List (Int × (Int × (Int × Bool)))) (x2 : List (Int × (Int × (Int × Bool)))) : Option (Bool × List (Int × (Int × (Int × Bool))) × List (Int × (Int × (Int × Bool)))) :=
  br (Decidable.decide ((↑x2.length : Int) = 0))
 (some ((Bool.false, (x1, x2))))
 (chk (Decidable.decide (0 ≤ IntKind.i64.wrap ((↑x2.length : Int) - 1)) &&
    Nat.ble 0 (IntKind.i64.wrap ((↑x2.length : Int) - 1)).toNat &&
  (IntKind.i64.wrap ((↑x2.length : Int) - 1)).toNat.ble x2.length) (some ((Bool.true, (x1, List.take ((IntKind.i64.wrap ((↑x2.length : Int) - 1)).toNat - 0) (List.drop (0 + 0) x2))))))
theorem F32_eq (N : Nat) (x1 : List (Int × (Int × (Int × Bool)))) (x2 : List (Int × (Int × (Int × Bool)))) : g32' N x1 x2 = F32 N x1 x2 := by
  refine (e32 N x1 x2).trans ?_
  rfl
def g33' (N : Nat) (x1 : Int) (x2 : List (Int × (Int × (Int × Bool)))) (x3 : List (Int × (Int × (Int × Bool)))) : Option (Int) := f33 N (x1, x2, x3)
theorem e33 (N : Nat) (x1 : Int) (x2 : List (Int × (Int × (Int × Bool)))) (x3 : List (Int × (Int × (Int × Bool)))) : g33' N x1 x2 x3 =
  jp (fun (y0 : Bool) => br y0
 (some 0)
 (chk (Decidable.decide (0 ≤ x1) && Decidable.decide (x1 < (↑32 : Int))) (fixN N (fun again1 (y2 : Int × Int) => br (Decidable.decide (y2.2 < (↑x3.length : Int)))
 (jp (fun (y3 : Int) => again1 ((y3, IntKind.i64.wrap (y2.2 + 1))))
 (fun K4 => chk (Decidable.decide (0 ≤ y2.2) && Decidable.decide (y2.2 < (↑x3.length : Int))) (br (Decidable.decide ((x3.getD y2.2.toNat (0, 0, 0, Bool.false)).1 = x1))
 (chk (Decidable.decide (0 ≤ y2.2) && Decidable.decide (y2.2 < (↑x3.length : Int))) (K4 ((x3.getD y2.2.toNat (0, 0, 0, Bool.false)).2.1)))
 (K4 y2.1))))
 (some y2.1))
 (((x2.getD x1.toNat (0, 0, 0, Bool.false)).2.1, 0)))))
 (fun K5 => br (Decidable.decide (x1 < 0))
 (K5 Bool.true)
 (K5 (Decidable.decide (31 < x1)))) := by kernel_rfl
def F33 (N : Nat) (x1 : Int) (x2 : List (Int × (Int × (Int × Bool)))) (x3 : List (Int × (Int × (Int × Bool)))) : Option (Int) :=
  jp (fun (y0 : Bool) => br y0
 (some 0)
 (chk (Decidable.decide (0 ≤ x1) && Decidable.decide (x1 < (↑32 : Int))) (fixN N (fun again1 (y2 : Int × Int) => br (Decidable.decide (y2.2 < (↑x3.length : Int)))
 (jp (fun (y3 : Int) => again1 ((y3, IntKind.i64.wrap (y2.2 + 1))))
 (fun K4 => chk (Decidable.decide (0 ≤ y2.2) && Decidable.decide (y2.2 < (↑x3.length : Int))) (br (Decidable.decide ((x3.getD y2.2.toNat (0, 0, 0, Bool.false)).1 = x1))
 (chk (Decidable.decide (0 ≤ y2.2) && Decidable.decide (y2.2 < (↑x3.length : Int))) (K4 ((x3.getD y2.2.toNat (0, 0, 0, Bool.false)).2.1)))
 (K4 y2.1))))
 (some y2.1))
 (((x2.getD x1.toNat (0, 0, 0, Bool.false)).2.1, 0)))))
 (fun K5 => br (Decidable.decide (x1 < 0))
 (K5 Bool.true)
 (K5 (Decidable.decide (31 < x1))))
theorem F33_eq (N : Nat) (x1 : Int) (x2 : List (Int × (Int × (Int × Bool)))) (x3 : List (Int × (Int × (Int × Bool)))) : g33' N x1 x2 x3 = F33 N x1 x2 x3 := by
  refine (e33 N x1 x2 x3).trans ?_
  rfl
def g34' (N : Nat) (x1 : List (Int × (Int × (Int × Bool)))) (x2 : List (Int × (Int × (Int × Bool)))) : Option (List Int) := f34 N (x1, x2)
theorem e34 (N : Nat) (x1 : List (Int × (Int × (Int × Bool)))) (x2 : List (Int × (Int × (Int × Bool)))) : g34' N x1 x2 =
  fixN N (fun again0 (y1 : Int × List Int) => br (Decidable.decide (y1.1 < 32))
 (chk (Decidable.decide (0 ≤ y1.1) && Decidable.decide (y1.1 < (↑32 : Int))) (chk (Decidable.decide (0 ≤ y1.1) && Decidable.decide (y1.1 < (↑32 : Int))) (again0 ((IntKind.i64.wrap (y1.1 + 1), setD 0 y1.2 y1.1.toNat (x1.getD y1.1.toNat (0, 0, 0, Bool.false)).2.2.1)))))
 (some y1.2))
 ((0, [0, 0, 0, 0, 0, 0, 0, 0, 0, 0, 0, 0, 0, 0, 0, 0, 0, 0, 0, 0, 0, 0, 0, 0, 0, 0, 0, 0, 0, 0, 0, 0])) := by kernel_rfl
def F34 (N : Nat) (x1 : List (Int × (Int × (Int × Bool)))) (x2 : List (Int × (Int × (Int × Bool)))) : Option (List Int) :=
  fixN N (fun again0 (y1 : Int × List Int) => br (Decidable.decide (y1.1 < 32))
 (chk (Decidable.decide (0 ≤ y1.1) && Decidable.decide (y1.1 < (↑32 : Int))) (chk (Decidable.decide (0 ≤ y1.1) && Decidable.decide (y1.1 < (↑32 : Int))) (again0 ((IntKind.i64.wrap (y1.1 + 1), setD 0 y1.2 y1.1.toNat (x1.getD y1.1.toNat (0, 0, 0, Bool.false)).2.2.1)))))
 (some y1.2))
 ((0, [0, 0, 0, 0, 0, 0, 0, 0, 0, 0, 0, 0, 0, 0, 0, 0, 0, 0, 0, 0, 0, 0, 0, 0, 0, 0, 0, 0, 0, 0, 0, 0]))
theorem F34_eq (N : Nat) (x1 : List (Int × (Int × (Int × Bool)))) (x2 : List (Int × (Int × (Int × Bool)))) : g34' N x1 x2 = F34 N x1 x2 := by
  refine (e34 N x1 x2).trans ?_
  rfl
def g35' (N : Nat) (x1 : Int) (x2 : List (Int × Bool)) (x3 : List Int) (x4 : List (Int × Int)) : Option (Int × Bool) := f35 N (x1, x2, x3, x4)
theorem e35 (N : Nat) (x1 : Int) (x2 : List (Int × Bool)) (x3 : List Int) (x4 : List (Int × Int)) : g35' N x1 x2 x3 x4 =
  jp (fun (y0 : Bool) => br y0
 (some ((0, Bool.false)))
 (chk (Decidable.decide (0 ≤ x1) && Decidable.decide (x1 < (↑44 : Int))) (some (((x2.getD x1.toNat (0, Bool.false)).1, Bool.true)))))
 (fun K1 => br (Decidable.decide (x1 < 0))
 (K1 Bool.true)
 (br (Decidable.decide (44 ≤ x1))
 (K1 Bool.true)
 (bindS (g56' N x1 x2 x3 x4) (fun (y2 : Bool) => br y2
 (K1 Bool.true)
 (chk (Decidable.decide (0 ≤ x1) && Decidable.decide (x1 < (↑44 : Int))) (K1 (!(x2.getD x1.toNat (0, Bool.false)).2))))))) := by kernel_rfl
def F35 (N : Nat) (x1 : Int) (x2 : List (Int × Bool)) (x3 : List Int) (x4 : List (Int × Int)) : Option (Int × Bool) :=
  jp (fun (y0 : Bool) => br y0
 (some ((0, Bool.false)))
 (chk (Decidable.decide (0 ≤ x1) && Decidable.decide (x1 < (↑44 : Int))) (some (((x2.getD x1.toNat (0, Bool.false)).1, Bool.true)))))
 (fun K1 => br (Decidable.decide (x1 < 0))
 (K1 Bool.true)
 (br (Decidable.decide (44 ≤ x1))
 (K1 Bool.true)
 (bindS (F56 N x1 x2 x3 x4) (fun (y2 : Bool) => br y2
 (K1 Bool.true)
 (chk (Decidable.decide (0 ≤ x1) && Decidable.decide (x1 < (↑44 : Int))) (K1 (!(x2.getD x1.toNat (0, Bool.false)).2)))))))
theorem F35_eq (N : Nat) (x1 : Int) (x2 : List (Int × Bool)) (x3 : List Int) (x4 : List (Int × Int)) : g35' N x1 x2 x3 x4 = F35 N x1 x2 x3 x4 := by
  refine (e35 N x1 x2 x3 x4).trans ?_
  simp only [F56_eq, F35]
def g36' (N : Nat) (x1 : Int) (x2 : List (Int × (Int × (Int × Bool)))) (x3 : List (Int × (Int × (Int × Bool)))) : Option (Int × Bool) := f36 N (x1, x2, x3)
theorem e36 (N : Nat) (x1 : Int) (x2 : List (Int × (Int × (Int × Bool)))) (x3 : List (Int × (Int × (Int × Bool)))) : g36' N x1 x2 x3 =
  bindS (g60' N x1 x2 x3) (fun (y0 : (Int × Int × Int × Bool) × Bool) => jp (fun (y1 : Bool) => br y1
 (some ((0, Bool.false)))
 (some ((y0.1.2.2.1, Bool.true))))
 (fun K2 => br (!y0.2)
 (K2 Bool.true)
 (K2 (!y0.1.2.2.2)))) := by kernel_rfl
def F36 (N : Nat) (x1 : Int) (x2 : List (Int × (Int × (Int × Bool)))) (x3 : List (Int × (Int × (Int × Bool)))) : Option (Int × Bool) :=
  bindS (F60 N x1 x2 x3) (fun (y0 : (Int × Int × Int × Bool) × Bool) => jp (fun (y1 : Bool) => br y1
 (some ((0, Bool.false)))
 (some ((y0.1.2.2.1, Bool.true))))
 (fun K2 => br (!y0.2)
 (K2 Bool.true)
 (K2 (!y0.1.2.2.2))))
theorem F36_eq (N : Nat) (x1 : Int) (x2 : List (Int × (Int × (Int × Bool)))) (x3 : List (Int × (Int × (Int × Bool)))) : g36' N x1 x2 x3 = F36 N x1 x2 x3 := by
  refine (e36 N x1 x2 x3).trans ?_
  simp only [F60_eq, F36]
def g6' (N : Nat) (x1 : List Int) (x2 : List (Int × (Int × Int))) : Option (Bool) := f6 N (x1, x2)
theorem e6 (N : Nat) (x1 : List Int) (x2 : List (Int × (Int × Int))) : g6' N x1 x2 =
  bindS (g15' N ) (fun (y0 : Bool) => br (!y0)
 (some Bool.false)
 (bindS (g16' N x1) (fun (y1 : List (Int × Bool) × List Int) => bindS (g28' N x1) (fun (y2 : List (Int × Int × Int × Bool)) => fixN N (fun again3 (y4 : Int × List (Int × Bool) × List Int × List (Int × Int × Int × Bool) × List (Int × Int) × List (Int × Int × Int × Bool)) => jp (fun (y5 : Bool) => br y5
 (chk (Decidable.decide (0 ≤ y4.1) && Decidable.decide (y4.1 < (↑x2.length : Int))) (jp (fun (y6 : Int) => jp (fun (y7 : List (Int × Bool) × List Int × List (Int × Int × Int × Bool) × List (Int × Int) × List (Int × Int × Int × Bool)) => jp (fun (y8 : Bool) => br y8
 (some Bool.false)
 (again3 ((IntKind.i64.wrap (y4.1 + 1), (y7.1, (y7.2.1, (y7.2.2.1, (y7.2.2.2.1, y7.2.2.2.2))))))))
 (fun K9 => bindS (g17' N y7.1 y7.2.1 y7.2.2.2.1) (fun (y10 : Int) => br (!Decidable.decide (y10 = (↑y7.2.2.2.2.length : Int)))
 (K9 Bool.true)
 (bindS (g22' N ((x2.getD y4.1.toNat (0, 0, 0)).2.1) y7.1 y7.2.1 y7.2.2.2.1) (fun (y11 : Int) => bindS (g33' N ((x2.getD y4.1.toNat (0, 0, 0)).2.1) y7.2.2.1 y7.2.2.2.2) (fun (y12 : Int) => br (!Decidable.decide (y11 = y12))
 (K9 Bool.true)
 (bindS (g23' N y7.1 y7.2.1 y7.2.2.2.1) (fun (y13 : List Int) => bindS (g34' N y7.2.2.1 y7.2.2.2.2) (fun (y14 : List Int) => K9 (!(Ty.arr 32 (Ty.int IntKind.u64)).eq y13 y14))))))))))
 (fun K15 => br (Decidable.decide ((x2.getD y4.1.toNat (0, 0, 0)).1 = 0))
 (bindS (g18' N ((x2.getD y4.1.toNat (0, 0, 0)).2.1) y4.2.1 y4.2.2.1 y4.2.2.2.2.1) (fun (y16 : Int × Bool × List (Int × Bool) × List Int × List (Int × Int)) => bindS (g29' N ((x2.getD y4.1.toNat (0, 0, 0)).2.1) y4.2.2.2.1 y4.2.2.2.2.2) (fun (y17 : Int × Bool × List (Int × Int × Int × Bool) × List (Int × Int × Int × Bool)) => jp (fun (y18 : Bool) => br y18
 (some Bool.false)
 (K15 ((y16.2.2.1, (y16.2.2.2.1, (y17.2.2.1, (y16.2.2.2.2, y17.2.2.2)))))))
 (fun K19 => br (!Decidable.decide (y16.1 = y17.1))
 (K19 Bool.true)
 (K19 (!y16.2.1 == y17.2.1))))))
 (br (Decidable.decide ((x2.getD y4.1.toNat (0, 0, 0)).1 = 1))
 (bindS (g19' N ((x2.getD y4.1.toNat (0, 0, 0)).2.1) ((x2.getD y4.1.toNat (0, 0, 0)).2.2) y4.2.1 y4.2.2.1 y4.2.2.2.2.1) (fun (y20 : Bool × List (Int × Bool) × List Int × List (Int × Int)) => bindS (g30' N ((x2.getD y4.1.toNat (0, 0, 0)).2.1) ((x2.getD y4.1.toNat (0, 0, 0)).2.2) y4.2.2.2.1 y4.2.2.2.2.2) (fun (y21 : Bool × List (Int × Int × Int × Bool) × List (Int × Int × Int × Bool)) => br (!y20.1 == y21.1)
 (some Bool.false)
 (K15 ((y20.2.1, (y20.2.2.1, (y21.2.1, (y20.2.2.2, y21.2.2)))))))))
 (br (Decidable.decide ((x2.getD y4.1.toNat (0, 0, 0)).1 = 2))
 (bindS (g20' N y4.2.1 y4.2.2.1 y4.2.2.2.2.1) (fun (y22 : Bool × List (Int × Bool) × List Int × List (Int × Int)) => bindS (g31' N y4.2.2.2.1 y4.2.2.2.2.2) (fun (y23 : Bool × List (Int × Int × Int × Bool) × List (Int × Int × Int × Bool)) => br (!y22.1 == y23.1)
 (some Bool.false)
 (K15 ((y22.2.1, (y22.2.2.1, (y23.2.1, (y22.2.2.2, y23.2.2)))))))))
 (br (Decidable.decide ((x2.getD y4.1.toNat (0, 0, 0)).1 = 3))
 (bindS (g21' N y4.2.1 y4.2.2.1 y4.2.2.2.2.1) (fun (y24 : Bool × List (Int × Bool) × List Int × List (Int × Int)) => bindS (g32' N y4.2.2.2.1 y4.2.2.2.2.2) (fun (y25 : Bool × List (Int × Int × Int × Bool) × List (Int × Int × Int × Bool)) => br (!y24.1 == y25.1)
 (some Bool.false)
 (K15 ((y24.2.1, (y24.2.2.1, (y25.2.1, (y24.2.2.2, y25.2.2)))))))))
 (br (Decidable.decide ((x2.getD y4.1.toNat (0, 0, 0)).1 = 4))
 (bindS (g19' N y6 ((x2.getD y4.1.toNat (0, 0, 0)).2.2) y4.2.1 y4.2.2.1 y4.2.2.2.2.1) (fun (y26 : Bool × List (Int × Bool) × List Int × List (Int × Int)) => bindS (g30' N y6 ((x2.getD y4.1.toNat (0, 0, 0)).2.2) y4.2.2.2.1 y4.2.2.2.2.2) (fun (y27 : Bool × List (Int × Int × Int × Bool) × List (Int × Int × Int × Bool)) => br (!y26.1 == y27.1)
 (some Bool.false)
 (K15 ((y26.2.1, (y26.2.2.1, (y27.2.1, (y26.2.2.2, y27.2.2)))))))))
 (K15 ((y4.2.1, (y4.2.2.1, (y4.2.2.2.1, (y4.2.2.2.2.1, y4.2.2.2.2.2))))))))))))
 (fun K28 => br (Decidable.decide (0 < (↑y4.2.2.2.2.2.length : Int)))
 (chk (Decidable.decide (0 ≤ IntKind.i64.wrap ((↑y4.2.2.2.2.2.length : Int) - 1)) &&
  Decidable.decide (IntKind.i64.wrap ((↑y4.2.2.2.2.2.length : Int) - 1) < (↑y4.2.2.2.2.2.length : Int))) (K28 ((y4.2.2.2.2.2.getD (IntKind.i64.wrap ((↑y4.2.2.2.2.2.length : Int) - 1)).toNat (0, 0, 0, Bool.false)).2.1)))
 (K28 0))))
 (fixN N (fun again29 (y30 : Int) => br (Decidable.decide (y30 < 46))
 (bindS (g35' N y30 y4.2.1 y4.2.2.1 y4.2.2.2.2.1) (fun (y31 : Int × Bool) => bindS (g36' N y30 y4.2.2.2.1 y4.2.2.2.2.2) (fun (y32 : Int × Bool) => jp (fun (y33 : Bool) => br y33
 (some Bool.false)
 (again29 (IntKind.i64.wrap (y30 + 1))))
 (fun K34 => br (!Decidable.decide (y31.1 = y32.1))
 (K34 Bool.true)
 (br (!y31.2 == y32.2)
 (K34 Bool.true)
 (bindS (g22' N y30 y4.2.1 y4.2.2.1 y4.2.2.2.2.1) (fun (y35 : Int) => bindS (g33' N y30 y4.2.2.2.1 y4.2.2.2.2.2) (fun (y36 : Int) => K34 (!Decidable.decide (y35 = y36))))))))))
 (bindS (g15' N ) (fun (y37 : Bool) => some y37)))
 (-1)))
 (fun K38 => br (Decidable.decide (y4.1 < (↑x2.length : Int)))
 (K38 (Decidable.decide (y4.1 < 60)))
 (K38 Bool.false)))
 ((0, (y1.1, (y1.2, (y2, ([], [])))))))))) := by kernel_rfl
def F6 (N : Nat) (x1 : List Int) (x2 : List (Int × (Int × Int))) : Option (Bool) :=
  bindS (F15 N ) (fun (y0 : Bool) => br (!y0)
 (some Bool.false)
 (bindS (F16 N x1) (fun (y1 : List (Int × Bool) × List Int) => bindS (F28 N x1) (fun (y2 : List (Int × Int × Int × Bool)) => fixN N (fun again3 (y4 : Int × List (Int × Bool) × List Int × List (Int × Int × Int × Bool) × List (Int × Int) × List (Int × Int × Int × Bool)) => jp (fun (y5 : Bool) => br y5
 (chk (Decidable.decide (0 ≤ y4.1) && Decidable.decide (y4.1 < (↑x2.length : Int))) (jp (fun (y6 : Int) => jp (fun (y7 : List (Int × Bool) × List Int × List (Int × Int × Int × Bool) × List (Int × Int) × List (Int × Int × Int × Bool)) => jp (fun (y8 : Bool) => br y8
 (some Bool.false)
 (again3 ((IntKind.i64.wrap (y4.1 + 1), (y7.1, (y7.2.1, (y7.2.2.1, (y7.2.2.2.1, y7.2.2.2.2))))))))
 (fun K9 => bindS (F17 N y7.1 y7.2.1 y7.2.2.2.1) (fun (y10 : Int) => br (!Decidable.decide (y10 = (↑y7.2.2.2.2.length : Int)))
 (K9 Bool.true)
 (bindS (F22 N ((x2.getD y4.1.toNat (0, 0, 0)).2.1) y7.1 y7.2.1 y7.2.2.2.1) (fun (y11 : Int) => bindS (F33 N ((x2.getD y4.1.toNat (0, 0, 0)).2.1) y7.2.2.1 y7.2.2.2.2) (fun (y12 : Int) => br (!Decidable.decide (y11 = y12))
 (K9 Bool.true)
 (bindS (F23 N y7.1 y7.2.1 y7.2.2.2.1) (fun (y13 : List Int) => bindS (F34 N y7.2.2.1 y7.2.2.2.2) (fun (y14 : List Int) => K9 (!(Ty.arr 32 (Ty.int IntKind.u64)).eq y13 y14))))))))))
 (fun K15 => br (Decidable.decide ((x2.getD y4.1.toNat (0, 0, 0)).1 = 0))
 (bindS (F18 N ((x2.getD y4.1.toNat (0, 0, 0)).2.1) y4.2.1 y4.2.2.1 y4.2.2.2.2.1) (fun (y16 : Int × Bool × List (Int × Bool) × List Int × List (Int × Int)) => bindS (F29 N ((x2.getD y4.1.toNat (0, 0, 0)).2.1) y4.2.2.2.1 y4.2.2.2.2.2) (fun (y17 : Int × Bool × List (Int × Int × Int × Bool) × List (Int × Int × Int × Bool)) => jp (fun (y18 : Bool) => br y18
 (some Bool.false)
 (K15 ((y16.2.2.1, (y16.2.2.2.1, (y17.2.2.1, (y16.2.2.2.2, y17.2.2.2)))))))
 (fun K19 => br (!Decidable.decide (y16.1 = y17.1))
 (K19 Bool.true)
 (K19 (!y16.2.1 == y17.2.1))))))
 (br (Decidable.decide ((x2.getD y4.1.toNat (0, 0, 0)).1 = 1))
 (bindS (F19 N ((x2.getD y4.1.toNat (0, 0, 0)).2.1) ((x2.getD y4.1.toNat (0, 0, 0)).2.2) y4.2.1 y4.2.2.1 y4.2.2.2.2.1) (fun (y20 : Bool × List (Int × Bool) × List Int × List (Int × Int)) => bindS (F30 N ((x2.getD y4.1.toNat (0, 0, 0)).2.1) ((x2.getD y4.1.toNat (0, 0, 0)).2.2) y4.2.2.2.1 y4.2.2.2.2.2) (fun (y21 : Bool × List (Int × Int × Int × Bool) × List (Int × Int × Int × Bool)) => br (!y20.1 == y21.1)
 (some Bool.false)
 (K15 ((y20.2.1, (y20.2.2.1, (y21.2.1, (y20.2.2.2, y21.2.2)))))))))
 (br (Decidable.decide ((x2.getD y4.1.toNat (0, 0, 0)).1 = 2))
 (bindS (F20 N y4.2.1 y4.2.2.1 y4.2.2.2.2.1) (fun (y22 : Bool × List (Int × Bool) × List Int × List (Int × Int)) => bindS (F31 N y4.2.2.2.1 y4.2.2.2.2.2) (fun (y23 : Bool × List (Int × Int × Int × Bool) × List (Int × Int × Int × Bool)) => br (!y22.1 == y23.1)
 (some Bool.false)
 (K15 ((y22.2.1, (y22.2.2.1, (y23.2.1, (y22.2.2.2, y23.2.2)))))))))
 (br (Decidable.decide ((x2.getD y4.1.toNat (0, 0, 0)).1 = 3))
 (bindS (F21 N y4.2.1 y4.2.2.1 y4.2.2.2.2.1) (fun (y24 : Bool × List (Int × Bool) × List Int × List (Int × Int)) => bindS (F32 N y4.2.2.2.1 y4.2.2.2.2.2) (fun (y25 : Bool × List (Int × Int × Int × Bool) × List (Int × Int × Int × Bool)) => br (!y24.1 == y25.1)
 (some Bool.false)
 (K15 ((y24.2.1, (y24.2.2.1, (y25.2.1, (y24.2.2.2, y25.2.2)))))))))
 (br (Decidable.decide ((x2.getD y4.1.toNat (0, 0, 0)).1 = 4))
 (bindS (F19 N y6 ((x2.getD y4.1.toNat (0, 0, 0)).2.2) y4.2.1 y4.2.2.1 y4.2.2.2.2.1) (fun (y26 : Bool × List (Int × Bool) × List Int × List (Int × Int)) => bindS (F30 N y6 ((x2.getD y4.1.toNat (0, 0, 0)).2.2) y4.2.2.2.1 y4.2.2.2.2.2) (fun (y27 : Bool × List (Int × Int × Int × Bool) × List (Int × Int × Int × Bool)) => br (!y26.1 == y27.1)
 (some Bool.false)
 (K15 ((y26.2.1, (y26.2.2.1, (y27.2.1, (y26.2.2.2, y27.2.2)))))))))
 (K15 ((y4.2.1, (y4.2.2.1, (y4.2.2.2.1, (y4.2.2.2.2.1, y4.2.2.2.2.2))))))))))))
 (fun K28 => br (Decidable.decide (0 < (↑y4.2.2.2.2.2.length : Int)))
 (chk (Decidable.decide (0 ≤ IntKind.i64.wrap ((↑y4.2.2.2.2.2.length : Int) - 1)) &&
  Decidable.decide (IntKind.i64.wrap ((↑y4.2.2.2.2.2.length : Int) - 1) < (↑y4.2.2.2.2.2.length : Int))) (K28 ((y4.2.2.2.2.2.getD (IntKind.i64.wrap ((↑y4.2.2.2.2.2.length : Int) - 1)).toNat (0, 0, 0, Bool.false)).2.1)))
 (K28 0))))
 (fixN N (fun again29 (y30 : Int) => br (Decidable.decide (y30 < 46))
 (bindS (F35 N y30 y4.2.1 y4.2.2.1 y4.2.2.2.2.1) (fun (y31 : Int × Bool) => bindS (F36 N y30 y4.2.2.2.1 y4.2.2.2.2.2) (fun (y32 : Int × Bool) => jp (fun (y33 : Bool) => br y33
 (some Bool.false)
 (again29 (IntKind.i64.wrap (y30 + 1))))
 (fun K34 => br (!Decidable.decide (y31.1 = y32.1))
 (K34 Bool.true)
 (br (!y31.2 == y32.2)
 (K34 Bool.true)
 (bindS (F22 N y30 y4.2.1 y4.2.2.1 y4.2.2.2.2.1) (fun (y35 : Int) => bindS (F33 N y30 y4.2.2.2.1 y4.2.2.2.2.2) (fun (y36 : Int) => K34 (!Decidable.decide (y35 = y36))))))))))
 (bindS (F15 N ) (fun (y37 : Bool) => some y37)))
 (-1)))
 (fun K38 => br (Decidable.decide (y4.1 < (↑x2.length : Int)))
 (K38 (Decidable.decide (y4.1 < 60)))
 (K38 Bool.false)))
 ((0, (y1.1, (y1.2, (y2, ([], []))))))))))
theorem F6_eq (N : Nat) (x1 : List Int) (x2 : List (Int × (Int × Int))) : g6' N x1 x2 = F6 N x1 x2 := by
  refine (e6 N x1 x2).trans ?_
  simp only [F15_eq, F16_eq, F17_eq, F18_eq, F19_eq, F20_eq, F21_eq, F22_eq, F23_eq, F28_eq, F29_eq, F30_eq, F31_eq, F32_eq, F33_eq, F34_eq, F35_eq, F36_eq, F6]
end Go.Proofs.Ytipdancojcdioaa
