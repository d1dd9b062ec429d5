/- What the contracts' functions come to, as printed. No condition. -/
import Derived.Test.YtipdancojcdioaaConOr
import Derived.KernelRfl
namespace Go.Proofs.Ytipdancojcdioaa
open Go Go.Ev Go.Sh
set_option maxRecDepth 100000
set_option linter.unusedVariables false
def g57' (N : Nat) (x1 : Int) : Option (Int) := f57 N (x1)
theorem e57 (N : Nat) (x1 : Int) : g57' N x1 =
  jp (fun (y0 : Bool) => br y0
 (some 0)
 (br (Decidable.decide (x1 ≤ 2))
 (some 1)
 (br (Decidable.decide (x1 ≤ 4))
 (some 2)
 (br (Decidable.decide (x1 ≤ 10))
 (some 3)
 (br (Decidable.decide (x1 ≤ 17))
 (some 4)
 (br (Decidable.decide (x1 ≤ 21))
 (some 5)
 (br (Decidable.decide (x1 ≤ 34))
 (some 6)
 (br (Decidable.decide (x1 ≤ 49))
 (some 7)
 (br (Decidable.decide (x1 ≤ 51))
 (some 8)
 (br (Decidable.decide (x1 ≤ 53))
 (some 9)
 (br (Decidable.decide (x1 ≤ 55))
 (some 10)
 (br (Decidable.decide (x1 ≤ 57))
 (some 11)
 (some 12)))))))))))))
 (fun K1 => br (Decidable.decide (x1 < 1))
 (K1 Bool.true)
 (K1 (Decidable.decide (75 < x1)))) := by kernel_rfl
def F57 (N : Nat) (x1 : Int) : Option (Int) :=
  jp (fun (y0 : Bool) => br y0
 (some 0)
 (br (Decidable.decide (x1 ≤ 2))
 (some 1)
 (br (Decidable.decide (x1 ≤ 4))
 (some 2)
 (br (Decidable.decide (x1 ≤ 10))
 (some 3)
 (br (Decidable.decide (x1 ≤ 17))
 (some 4)
 (br (Decidable.decide (x1 ≤ 21))
 (some 5)
 (br (Decidable.decide (x1 ≤ 34))
 (some 6)
 (br (Decidable.decide (x1 ≤ 49))
 (some 7)
 (br (Decidable.decide (x1 ≤ 51))
 (some 8)
 (br (Decidable.decide (x1 ≤ 53))
 (some 9)
 (br (Decidable.decide (x1 ≤ 55))
 (some 10)
 (br (Decidable.decide (x1 ≤ 57))
 (some 11)
 (some 12)))))))))))))
 (fun K1 => br (Decidable.decide (x1 < 1))
 (K1 Bool.true)
 (K1 (Decidable.decide (75 < x1))))
theorem F57_eq (N : Nat) (x1 : Int) : g57' N x1 = F57 N x1 := by
  refine (e57 N x1).trans ?_
  rfl
def g58' (N : Nat) (x1 : Int) : Option (Int) := f58 N (x1)
theorem e58 (N : Nat) (x1 : Int) : g58' N x1 =
  jp (fun (y0 : Bool) => br y0
 (some 1)
 (jp (fun (y1 : Bool) => br y1
 (some 2)
 (jp (fun (y2 : Bool) => br y2
 (some 4)
 (jp (fun (y3 : Bool) => br y3
 (some 8)
 (bindS (g57' N x1) (fun (y4 : Int) => br (!Decidable.decide (y4 = 12))
 (some 0)
 (br (Decidable.decide (x1 ≤ 66))
 (some 4)
 (some 8)))))
 (fun K5 => br (Decidable.decide (x1 = 14))
 (K5 Bool.true)
 (br (Decidable.decide (x1 = 21))
 (K5 Bool.true)
 (br (Decidable.decide (x1 = 55))
 (K5 Bool.true)
 (K5 (Decidable.decide (x1 = 57))))))))
 (fun K6 => br (Decidable.decide (x1 = 13))
 (K6 Bool.true)
 (br (Decidable.decide (x1 = 17))
 (K6 Bool.true)
 (br (Decidable.decide (x1 = 20))
 (K6 Bool.true)
 (br (Decidable.decide (x1 = 54))
 (K6 Bool.true)
 (K6 (Decidable.decide (x1 = 56)))))))))
 (fun K7 => br (Decidable.decide (x1 = 12))
 (K7 Bool.true)
 (br (Decidable.decide (x1 = 16))
 (K7 Bool.true)
 (K7 (Decidable.decide (x1 = 19)))))))
 (fun K8 => br (Decidable.decide (x1 = 11))
 (K8 Bool.true)
 (br (Decidable.decide (x1 = 15))
 (K8 Bool.true)
 (K8 (Decidable.decide (x1 = 18))))) := by kernel_rfl
def F58 (N : Nat) (x1 : Int) : Option (Int) :=
  jp (fun (y0 : Bool) => br y0
 (some 1)
 (jp (fun (y1 : Bool) => br y1
 (some 2)
 (jp (fun (y2 : Bool) => br y2
 (some 4)
 (jp (fun (y3 : Bool) => br y3
 (some 8)
 (bindS (F57 N x1) (fun (y4 : Int) => br (!Decidable.decide (y4 = 12))
 (some 0)
 (br (Decidable.decide (x1 ≤ 66))
 (some 4)
 (some 8)))))
 (fun K5 => br (Decidable.decide (x1 = 14))
 (K5 Bool.true)
 (br (Decidable.decide (x1 = 21))
 (K5 Bool.true)
 (br (Decidable.decide (x1 = 55))
 (K5 Bool.true)
 (K5 (Decidable.decide (x1 = 57))))))))
 (fun K6 => br (Decidable.decide (x1 = 13))
 (K6 Bool.true)
 (br (Decidable.decide (x1 = 17))
 (K6 Bool.true)
 (br (Decidable.decide (x1 = 20))
 (K6 Bool.true)
 (br (Decidable.decide (x1 = 54))
 (K6 Bool.true)
 (K6 (Decidable.decide (x1 = 56)))))))))
 (fun K7 => br (Decidable.decide (x1 = 12))
 (K7 Bool.true)
 (br (Decidable.decide (x1 = 16))
 (K7 Bool.true)
 (K7 (Decidable.decide (x1 = 19)))))))
 (fun K8 => br (Decidable.decide (x1 = 11))
 (K8 Bool.true)
 (br (Decidable.decide (x1 = 15))
 (K8 Bool.true)
 (K8 (Decidable.decide (x1 = 18)))))
theorem F58_eq (N : Nat) (x1 : Int) : g58' N x1 = F58 N x1 := by
  refine (e58 N x1).trans ?_
  simp only [F57_eq, F58]
def g59' (N : Nat)  : Option (List (List UInt8)) := f59 N ()
theorem e59 (N : Nat)  : g59' N  =
  some ([[], [108, 117, 105], [97, 117, 105, 112, 99], [106, 97, 108], [106, 97, 108, 114], [98, 101, 113], [98, 110, 101],
  [98, 108, 116], [98, 103, 101], [98, 108, 116, 117], [98, 103, 101, 117], [108, 98], [108, 104], [108, 119],
  [108, 100], [108, 98, 117], [108, 104, 117], [108, 119, 117], [115, 98], [115, 104], [115, 119], [115, 100],
  [97, 100, 100, 105], [115, 108, 116, 105], [115, 108, 116, 105, 117], [120, 111, 114, 105], [111, 114, 105],
  [97, 110, 100, 105], [115, 108, 108, 105], [115, 114, 108, 105], [115, 114, 97, 105], [97, 100, 100, 105, 119],
  [115, 108, 108, 105, 119], [115, 114, 108, 105, 119], [115, 114, 97, 105, 119], [97, 100, 100], [115, 117, 98],
  [115, 108, 108], [115, 108, 116], [115, 108, 116, 117], [120, 111, 114], [115, 114, 108], [115, 114, 97], [111, 114],
  [97, 110, 100], [97, 100, 100, 119], [115, 117, 98, 119], [115, 108, 108, 119], [115, 114, 108, 119],
  [115, 114, 97, 119], [102, 101, 110, 99, 101], [102, 101, 110, 99, 101, 46, 116, 115, 111], [101, 99, 97, 108, 108],
  [101, 98, 114, 101, 97, 107], [108, 114, 46, 119], [108, 114, 46, 100], [115, 99, 46, 119], [115, 99, 46, 100],
  [97, 109, 111, 115, 119, 97, 112, 46, 119], [97, 109, 111, 97, 100, 100, 46, 119],
  [97, 109, 111, 120, 111, 114, 46, 119], [97, 109, 111, 97, 110, 100, 46, 119], [97, 109, 111, 111, 114, 46, 119],
  [97, 109, 111, 109, 105, 110, 46, 119], [97, 109, 111, 109, 97, 120, 46, 119],
  [97, 109, 111, 109, 105, 110, 117, 46, 119], [97, 109, 111, 109, 97, 120, 117, 46, 119],
  [97, 109, 111, 115, 119, 97, 112, 46, 100], [97, 109, 111, 97, 100, 100, 46, 100],
  [97, 109, 111, 120, 111, 114, 46, 100], [97, 109, 111, 97, 110, 100, 46, 100], [97, 109, 111, 111, 114, 46, 100],
  [97, 109, 111, 109, 105, 110, 46, 100], [97, 109, 111, 109, 97, 120, 46, 100],
  [97, 109, 111, 109, 105, 110, 117, 46, 100], [97, 109, 111, 109, 97, 120, 117, 46, 100]]) := by kernel_rfl
def F59 (N : Nat)  : Option (List (List UInt8)) :=
  some ([[], [108, 117, 105], [97, 117, 105, 112, 99], [106, 97, 108], [106, 97, 108, 114], [98, 101, 113], [98, 110, 101],
  [98, 108, 116], [98, 103, 101], [98, 108, 116, 117], [98, 103, 101, 117], [108, 98], [108, 104], [108, 119],
  [108, 100], [108, 98, 117], [108, 104, 117], [108, 119, 117], [115, 98], [115, 104], [115, 119], [115, 100],
  [97, 100, 100, 105], [115, 108, 116, 105], [115, 108, 116, 105, 117], [120, 111, 114, 105], [111, 114, 105],
  [97, 110, 100, 105], [115, 108, 108, 105], [115, 114, 108, 105], [115, 114, 97, 105], [97, 100, 100, 105, 119],
  [115, 108, 108, 105, 119], [115, 114, 108, 105, 119], [115, 114, 97, 105, 119], [97, 100, 100], [115, 117, 98],
  [115, 108, 108], [115, 108, 116], [115, 108, 116, 117], [120, 111, 114], [115, 114, 108], [115, 114, 97], [111, 114],
  [97, 110, 100], [97, 100, 100, 119], [115, 117, 98, 119], [115, 108, 108, 119], [115, 114, 108, 119],
  [115, 114, 97, 119], [102, 101, 110, 99, 101], [102, 101, 110, 99, 101, 46, 116, 115, 111], [101, 99, 97, 108, 108],
  [101, 98, 114, 101, 97, 107], [108, 114, 46, 119], [108, 114, 46, 100], [115, 99, 46, 119], [115, 99, 46, 100],
  [97, 109, 111, 115, 119, 97, 112, 46, 119], [97, 109, 111, 97, 100, 100, 46, 119],
  [97, 109, 111, 120, 111, 114, 46, 119], [97, 109, 111, 97, 110, 100, 46, 119], [97, 109, 111, 111, 114, 46, 119],
  [97, 109, 111, 109, 105, 110, 46, 119], [97, 109, 111, 109, 97, 120, 46, 119],
  [97, 109, 111, 109, 105, 110, 117, 46, 119], [97, 109, 111, 109, 97, 120, 117, 46, 119],
  [97, 109, 111, 115, 119, 97, 112, 46, 100], [97, 109, 111, 97, 100, 100, 46, 100],
  [97, 109, 111, 120, 111, 114, 46, 100], [97, 109, 111, 97, 110, 100, 46, 100], [97, 109, 111, 111, 114, 46, 100],
  [97, 109, 111, 109, 105, 110, 46, 100], [97, 109, 111, 109, 97, 120, 46, 100],
  [97, 109, 111, 109, 105, 110, 117, 46, 100], [97, 109, 111, 109, 97, 120, 117, 46, 100]])
theorem F59_eq (N : Nat)  : g59' N  = F59 N  := by
  refine (e59 N ).trans ?_
  rfl
def g27' (N : Nat) (x1 : Int) : Option (List UInt8) := f27 N (x1)
theorem e27 (N : Nat) (x1 : Int) : g27' N x1 =
  bindS (g57' N x1) (fun (y0 : Int) => br (Decidable.decide (y0 = 0))
 (some [])
 (bindS (g59' N ) (fun (y1 : List (List UInt8)) => chk (Decidable.decide (0 ≤ x1) && Decidable.decide (x1 < (↑76 : Int))) (some (y1.getD x1.toNat []))))) := by kernel_rfl
def F27 (N : Nat) (x1 : Int) : Option (List UInt8) :=
  bindS (F57 N x1) (fun (y0 : Int) => br (Decidable.decide (y0 = 0))
 (some [])
 (bindS (F59 N ) (fun (y1 : List (List UInt8)) => chk (Decidable.decide (0 ≤ x1) && Decidable.decide (x1 < (↑76 : Int))) (some (y1.getD x1.toNat [])))))
theorem F27_eq (N : Nat) (x1 : Int) : g27' N x1 = F27 N x1 := by
  refine (e27 N x1).trans ?_
  simp only [F57_eq, F59_eq, F27]
def g26' (N : Nat) (x1 : List UInt8) : Option (Int) := f26 N (x1)
theorem e26 (N : Nat) (x1 : List UInt8) : g26' N x1 =
  bindS (g59' N ) (fun (y0 : List (List UInt8)) => fixN N (fun again1 (y2 : Int) => br (Decidable.decide (y2 < 76))
 (chk (Decidable.decide (0 ≤ y2) && Decidable.decide (y2 < (↑76 : Int))) (br (y0.getD y2.toNat [] == x1)
 (some y2)
 (again1 (IntKind.i64.wrap (y2 + 1)))))
 (some 0))
 0) := by kernel_rfl
def F26 (N : Nat) (x1 : List UInt8) : Option (Int) :=
  bindS (F59 N ) (fun (y0 : List (List UInt8)) => fixN N (fun again1 (y2 : Int) => br (Decidable.decide (y2 < 76))
 (chk (Decidable.decide (0 ≤ y2) && Decidable.decide (y2 < (↑76 : Int))) (br (y0.getD y2.toNat [] == x1)
 (some y2)
 (again1 (IntKind.i64.wrap (y2 + 1)))))
 (some 0))
 0)
theorem F26_eq (N : Nat) (x1 : List UInt8) : g26' N x1 = F26 N x1 := by
  refine (e26 N x1).trans ?_
  simp only [F59_eq, F26]
def g61' (N : Nat) (x1 : Int) : Option (Int) := f61 N (x1)
theorem e61 (N : Nat) (x1 : Int) : g61' N x1 =
  jp (fun (y0 : Bool) => br y0
 (some 0)
 (some x1))
 (fun K1 => br (Decidable.decide (x1 < 0))
 (K1 Bool.true)
 (K1 (Decidable.decide (31 < x1)))) := by kernel_rfl
def F61 (N : Nat) (x1 : Int) : Option (Int) :=
  jp (fun (y0 : Bool) => br y0
 (some 0)
 (some x1))
 (fun K1 => br (Decidable.decide (x1 < 0))
 (K1 Bool.true)
 (K1 (Decidable.decide (31 < x1))))
theorem F61_eq (N : Nat) (x1 : Int) : g61' N x1 = F61 N x1 := by
  refine (e61 N x1).trans ?_
  rfl
def g38' (N : Nat) (x1 : (Int × (Int × (Int × (Int × (Int × (Bool × (Bool × (Int × Int))))))))) : Option (List Int) := f38 N (x1)
theorem e38 (N : Nat) (x1 : (Int × (Int × (Int × (Int × (Int × (Bool × (Bool × (Int × Int))))))))) : g38' N x1 =
  bindS (g57' N x1.1) (fun (y0 : Int) => jp (fun (y1 : List Int) => fixN N (fun again2 (y3 : Int × List Int) => br (Decidable.decide (y3.1 < (↑y1.length : Int)))
 (jp (fun (y4 : List Int) => again2 ((IntKind.i64.wrap (y3.1 + 1), y4)))
 (fun K5 => chk (Decidable.decide (0 ≤ y3.1) && Decidable.decide (y3.1 < (↑y1.length : Int))) (br (!Decidable.decide (y1.getD y3.1.toNat 0 = 0))
 (chk (Decidable.decide ((y3.2.length + [y1.getD y3.1.toNat 0].length) * 8 ≤ lim)) (K5 (y3.2 ++ [y1.getD y3.1.toNat 0])))
 (K5 y3.2))))
 (some y3.2))
 ((0, [])))
 (fun K6 => jp (fun (y7 : Bool) => br y7
 (bindS (g61' N x1.2.2.1) (fun (y8 : Int) => bindS (g61' N x1.2.2.2.1) (fun (y9 : Int) => K6 ([y8, y9]))))
 (jp (fun (y10 : Bool) => br y10
 (bindS (g61' N x1.2.2.1) (fun (y11 : Int) => K6 [y11]))
 (br (Decidable.decide (y0 = 2))
 (br (Decidable.decide (x1.1 = 4))
 (bindS (g61' N x1.2.2.1) (fun (y12 : Int) => K6 [y12]))
 (K6 []))
 (K6 [])))
 (fun K13 => br (Decidable.decide (y0 = 4))
 (K13 Bool.true)
 (br (Decidable.decide (y0 = 6))
 (K13 Bool.true)
 (K13 (Decidable.decide (y0 = 10)))))))
 (fun K14 => br (Decidable.decide (y0 = 3))
 (K14 Bool.true)
 (br (Decidable.decide (y0 = 5))
 (K14 Bool.true)
 (br (Decidable.decide (y0 = 7))
 (K14 Bool.true)
 (br (Decidable.decide (y0 = 11))
 (K14 Bool.true)
 (K14 (Decidable.decide (y0 = 12))))))))) := by kernel_rfl
def F38 (N : Nat) (x1 : (Int × (Int × (Int × (Int × (Int × (Bool × (Bool × (Int × Int))))))))) : Option (List Int) :=
  bindS (F57 N x1.1) (fun (y0 : Int) => jp (fun (y1 : List Int) => fixN N (fun again2 (y3 : Int × List Int) => br (Decidable.decide (y3.1 < (↑y1.length : Int)))
 (jp (fun (y4 : List Int) => again2 ((IntKind.i64.wrap (y3.1 + 1), y4)))
 (fun K5 => chk (Decidable.decide (0 ≤ y3.1) && Decidable.decide (y3.1 < (↑y1.length : Int))) (br (!Decidable.decide (y1.getD y3.1.toNat 0 = 0))
 (chk (Decidable.decide ((y3.2.length + [y1.getD y3.1.toNat 0].length) * 8 ≤ lim)) (K5 (y3.2 ++ [y1.getD y3.1.toNat 0])))
 (K5 y3.2))))
 (some y3.2))
 ((0, [])))
 (fun K6 => jp (fun (y7 : Bool) => br y7
 (bindS (F61 N x1.2.2.1) (fun (y8 : Int) => bindS (F61 N x1.2.2.2.1) (fun (y9 : Int) => K6 ([y8, y9]))))
 (jp (fun (y10 : Bool) => br y10
 (bindS (F61 N x1.2.2.1) (fun (y11 : Int) => K6 [y11]))
 (br (Decidable.decide (y0 = 2))
 (br (Decidable.decide (x1.1 = 4))
 (bindS (F61 N x1.2.2.1) (fun (y12 : Int) => K6 [y12]))
 (K6 []))
 (K6 [])))
 (fun K13 => br (Decidable.decide (y0 = 4))
 (K13 Bool.true)
 (br (Decidable.decide (y0 = 6))
 (K13 Bool.true)
 (K13 (Decidable.decide (y0 = 10)))))))
 (fun K14 => br (Decidable.decide (y0 = 3))
 (K14 Bool.true)
 (br (Decidable.decide (y0 = 5))
 (K14 Bool.true)
 (br (Decidable.decide (y0 = 7))
 (K14 Bool.true)
 (br (Decidable.decide (y0 = 11))
 (K14 Bool.true)
 (K14 (Decidable.decide (y0 = 12)))))))))
theorem F38_eq (N : Nat) (x1 : (Int × (Int × (Int × (Int × (Int × (Bool × (Bool × (Int × Int))))))))) : g38' N x1 = F38 N x1 := by
  refine (e38 N x1).trans ?_
  simp only [F57_eq, F61_eq, F38]
def g24' (N : Nat)  : Option (Bool) := f24 N ()
theorem e24 (N : Nat)  : g24' N  =
  jp (fun (y0 : Bool) => some y0)
 (fun K1 => bindS (g57' N 13) (fun (y2 : Int) => br (Decidable.decide (y2 = 4))
 (bindS (g58' N 57) (fun (y3 : Int) => br (Decidable.decide (y3 = 8))
 (bindS (g27' N 54) (fun (y4 : List UInt8) => br (y4 == [108, 114, 46, 119])
 (bindS (g26' N ([115, 100])) (fun (y5 : Int) => br (Decidable.decide (y5 = 21))
 (bindS (g38' N ((35, 0, 0, 5, 0, Bool.false, Bool.false, 0, 0))) (fun (y6 : List Int) => K1 (bif Decidable.decide ((↑y6.length : Int) = 1) then Bool.true else Bool.false)))
 (K1 Bool.false)))
 (K1 Bool.false)))
 (K1 Bool.false)))
 (K1 Bool.false))) := by kernel_rfl
def F24 (N : Nat)  : Option (Bool) :=
  jp (fun (y0 : Bool) => some y0)
 (fun K1 => bindS (F57 N 13) (fun (y2 : Int) => br (Decidable.decide (y2 = 4))
 (bindS (F58 N 57) (fun (y3 : Int) => br (Decidable.decide (y3 = 8))
 (bindS (F27 N 54) (fun (y4 : List UInt8) => br (y4 == [108, 114, 46, 119])
 (bindS (F26 N ([115, 100])) (fun (y5 : Int) => br (Decidable.decide (y5 = 21))
 (bindS (F38 N ((35, 0, 0, 5, 0, Bool.false, Bool.false, 0, 0))) (fun (y6 : List Int) => K1 (bif Decidable.decide ((↑y6.length : Int) = 1) then Bool.true else Bool.false)))
 (K1 Bool.false)))
 (K1 Bool.false)))
 (K1 Bool.false)))
 (K1 Bool.false)))
theorem F24_eq (N : Nat)  : g24' N  = F24 N  := by
  refine (e24 N ).trans ?_
  simp only [F26_eq, F27_eq, F38_eq, F57_eq, F58_eq, F24]
def g63' (N : Nat) (x1 : Int) : Option (Int) := f63 N (x1)
theorem e63 (N : Nat) (x1 : Int) : g63' N x1 =
  br (Decidable.decide (x1 < 1))
 (some 0)
 (fixN N (fun again0 (y1 : Int × Int) => br (Decidable.decide (y1.2 < (↑[2, 2, 6, 7, 4, 13, 15, 2, 2, 2, 2, 18].length : Int)))
 (chk (Decidable.decide (0 ≤ y1.2) && Decidable.decide (y1.2 < (↑[2, 2, 6, 7, 4, 13, 15, 2, 2, 2, 2, 18].length : Int))) (br (Decidable.decide (y1.1 ≤ [2, 2, 6, 7, 4, 13, 15, 2, 2, 2, 2, 18].getD y1.2.toNat 0))
 (some (IntKind.i64.wrap (y1.2 + 1)))
 (chk (Decidable.decide (0 ≤ y1.2) && Decidable.decide (y1.2 < (↑[2, 2, 6, 7, 4, 13, 15, 2, 2, 2, 2, 18].length : Int))) (again0 ((IntKind.i64.wrap (y1.1 - [2, 2, 6, 7, 4, 13, 15, 2, 2, 2, 2, 18].getD y1.2.toNat 0), IntKind.i64.wrap (y1.2 + 1)))))))
 (some 0))
 ((x1, 0))) := by kernel_rfl
def F63 (N : Nat) (x1 : Int) : Option (Int) :=
  br (Decidable.decide (x1 < 1))
 (some 0)
 (fixN N (fun again0 (y1 : Int × Int) => br (Decidable.decide (y1.2 < (↑[2, 2, 6, 7, 4, 13, 15, 2, 2, 2, 2, 18].length : Int)))
 (chk (Decidable.decide (0 ≤ y1.2) && Decidable.decide (y1.2 < (↑[2, 2, 6, 7, 4, 13, 15, 2, 2, 2, 2, 18].length : Int))) (br (Decidable.decide (y1.1 ≤ [2, 2, 6, 7, 4, 13, 15, 2, 2, 2, 2, 18].getD y1.2.toNat 0))
 (some (IntKind.i64.wrap (y1.2 + 1)))
 (chk (Decidable.decide (0 ≤ y1.2) && Decidable.decide (y1.2 < (↑[2, 2, 6, 7, 4, 13, 15, 2, 2, 2, 2, 18].length : Int))) (again0 ((IntKind.i64.wrap (y1.1 - [2, 2, 6, 7, 4, 13, 15, 2, 2, 2, 2, 18].getD y1.2.toNat 0), IntKind.i64.wrap (y1.2 + 1)))))))
 (some 0))
 ((x1, 0)))
theorem F63_eq (N : Nat) (x1 : Int) : g63' N x1 = F63 N x1 := by
  refine (e63 N x1).trans ?_
  rfl
def g25' (N : Nat)  : Option (List (List UInt8)) := f25 N ()
theorem e25 (N : Nat)  : g25' N  =
  some ([[108, 117, 105], [97, 117, 105, 112, 99], [106, 97, 108], [106, 97, 108, 114], [98, 101, 113], [98, 110, 101],
  [98, 108, 116], [98, 103, 101], [98, 108, 116, 117], [98, 103, 101, 117], [108, 98], [108, 104], [108, 119],
  [108, 100], [108, 98, 117], [108, 104, 117], [108, 119, 117], [115, 98], [115, 104], [115, 119], [115, 100],
  [97, 100, 100, 105], [115, 108, 116, 105], [115, 108, 116, 105, 117], [120, 111, 114, 105], [111, 114, 105],
  [97, 110, 100, 105], [115, 108, 108, 105], [115, 114, 108, 105], [115, 114, 97, 105], [97, 100, 100, 105, 119],
  [115, 108, 108, 105, 119], [115, 114, 108, 105, 119], [115, 114, 97, 105, 119], [97, 100, 100], [115, 117, 98],
  [115, 108, 108], [115, 108, 116], [115, 108, 116, 117], [120, 111, 114], [115, 114, 108], [115, 114, 97], [111, 114],
  [97, 110, 100], [97, 100, 100, 119], [115, 117, 98, 119], [115, 108, 108, 119], [115, 114, 108, 119],
  [115, 114, 97, 119], [102, 101, 110, 99, 101], [102, 101, 110, 99, 101, 46, 116, 115, 111], [101, 99, 97, 108, 108],
  [101, 98, 114, 101, 97, 107], [108, 114, 46, 119], [108, 114, 46, 100], [115, 99, 46, 119], [115, 99, 46, 100],
  [97, 109, 111, 115, 119, 97, 112, 46, 119], [97, 109, 111, 97, 100, 100, 46, 119],
  [97, 109, 111, 120, 111, 114, 46, 119], [97, 109, 111, 97, 110, 100, 46, 119], [97, 109, 111, 111, 114, 46, 119],
  [97, 109, 111, 109, 105, 110, 46, 119], [97, 109, 111, 109, 97, 120, 46, 119],
  [97, 109, 111, 109, 105, 110, 117, 46, 119], [97, 109, 111, 109, 97, 120, 117, 46, 119],
  [97, 109, 111, 115, 119, 97, 112, 46, 100], [97, 109, 111, 97, 100, 100, 46, 100],
  [97, 109, 111, 120, 111, 114, 46, 100], [97, 109, 111, 97, 110, 100, 46, 100], [97, 109, 111, 111, 114, 46, 100],
  [97, 109, 111, 109, 105, 110, 46, 100], [97, 109, 111, 109, 97, 120, 46, 100],
  [97, 109, 111, 109, 105, 110, 117, 46, 100], [97, 109, 111, 109, 97, 120, 117, 46, 100]]) := by kernel_rfl
def F25 (N : Nat)  : Option (List (List UInt8)) :=
  some ([[108, 117, 105], [97, 117, 105, 112, 99], [106, 97, 108], [106, 97, 108, 114], [98, 101, 113], [98, 110, 101],
  [98, 108, 116], [98, 103, 101], [98, 108, 116, 117], [98, 103, 101, 117], [108, 98], [108, 104], [108, 119],
  [108, 100], [108, 98, 117], [108, 104, 117], [108, 119, 117], [115, 98], [115, 104], [115, 119], [115, 100],
  [97, 100, 100, 105], [115, 108, 116, 105], [115, 108, 116, 105, 117], [120, 111, 114, 105], [111, 114, 105],
  [97, 110, 100, 105], [115, 108, 108, 105], [115, 114, 108, 105], [115, 114, 97, 105], [97, 100, 100, 105, 119],
  [115, 108, 108, 105, 119], [115, 114, 108, 105, 119], [115, 114, 97, 105, 119], [97, 100, 100], [115, 117, 98],
  [115, 108, 108], [115, 108, 116], [115, 108, 116, 117], [120, 111, 114], [115, 114, 108], [115, 114, 97], [111, 114],
  [97, 110, 100], [97, 100, 100, 119], [115, 117, 98, 119], [115, 108, 108, 119], [115, 114, 108, 119],
  [115, 114, 97, 119], [102, 101, 110, 99, 101], [102, 101, 110, 99, 101, 46, 116, 115, 111], [101, 99, 97, 108, 108],
  [101, 98, 114, 101, 97, 107], [108, 114, 46, 119], [108, 114, 46, 100], [115, 99, 46, 119], [115, 99, 46, 100],
  [97, 109, 111, 115, 119, 97, 112, 46, 119], [97, 109, 111, 97, 100, 100, 46, 119],
  [97, 109, 111, 120, 111, 114, 46, 119], [97, 109, 111, 97, 110, 100, 46, 119], [97, 109, 111, 111, 114, 46, 119],
  [97, 109, 111, 109, 105, 110, 46, 119], [97, 109, 111, 109, 97, 120, 46, 119],
  [97, 109, 111, 109, 105, 110, 117, 46, 119], [97, 109, 111, 109, 97, 120, 117, 46, 119],
  [97, 109, 111, 115, 119, 97, 112, 46, 100], [97, 109, 111, 97, 100, 100, 46, 100],
  [97, 109, 111, 120, 111, 114, 46, 100], [97, 109, 111, 97, 110, 100, 46, 100], [97, 109, 111, 111, 114, 46, 100],
  [97, 109, 111, 109, 105, 110, 46, 100], [97, 109, 111, 109, 97, 120, 46, 100],
  [97, 109, 111, 109, 105, 110, 117, 46, 100], [97, 109, 111, 109, 97, 120, 117, 46, 100]])
theorem F25_eq (N : Nat)  : g25' N  = F25 N  := by
  refine (e25 N ).trans ?_
  rfl
def g68' (N : Nat) (x1 : Int) : Option (List UInt8) := f68 N (x1)
theorem e68 (N : Nat) (x1 : Int) : g68' N x1 =
  bindS (g25' N ) (fun (y0 : List (List UInt8)) => jp (fun (y1 : Bool) => br y1
 (some [])
 (chk (Decidable.decide (0 ≤ IntKind.i64.wrap (x1 - 1)) &&
  Decidable.decide (IntKind.i64.wrap (x1 - 1) < (↑y0.length : Int))) (some (y0.getD (IntKind.i64.wrap (x1 - 1)).toNat []))))
 (fun K2 => br (Decidable.decide (x1 < 1))
 (K2 Bool.true)
 (K2 (Decidable.decide ((↑y0.length : Int) < x1))))) := by kernel_rfl
def F68 (N : Nat) (x1 : Int) : Option (List UInt8) :=
  bindS (F25 N ) (fun (y0 : List (List UInt8)) => jp (fun (y1 : Bool) => br y1
 (some [])
 (chk (Decidable.decide (0 ≤ IntKind.i64.wrap (x1 - 1)) &&
  Decidable.decide (IntKind.i64.wrap (x1 - 1) < (↑y0.length : Int))) (some (y0.getD (IntKind.i64.wrap (x1 - 1)).toNat []))))
 (fun K2 => br (Decidable.decide (x1 < 1))
 (K2 Bool.true)
 (K2 (Decidable.decide ((↑y0.length : Int) < x1)))))
theorem F68_eq (N : Nat) (x1 : Int) : g68' N x1 = F68 N x1 := by
  refine (e68 N x1).trans ?_
  simp only [F25_eq, F68]
def g52' (N : Nat) (x1 : Int) : Option (Bool) := f52 N (x1)
theorem e52 (N : Nat) (x1 : Int) : g52' N x1 =
  bindS (g63' N x1) (fun (y0 : Int) => jp (fun (y1 : Bool) => some y1)
 (fun K2 => bindS (g68' N x1) (fun (y3 : List UInt8) => br (y3 == [106, 97, 108, 114])
 (K2 Bool.true)
 (br (Decidable.decide (3 ≤ y0))
 (br (Decidable.decide (y0 ≤ 7))
 (K2 Bool.true)
 (K2 (Decidable.decide (10 ≤ y0))))
 (K2 (Decidable.decide (10 ≤ y0))))))) := by kernel_rfl
def F52 (N : Nat) (x1 : Int) : Option (Bool) :=
  bindS (F63 N x1) (fun (y0 : Int) => jp (fun (y1 : Bool) => some y1)
 (fun K2 => bindS (F68 N x1) (fun (y3 : List UInt8) => br (y3 == [106, 97, 108, 114])
 (K2 Bool.true)
 (br (Decidable.decide (3 ≤ y0))
 (br (Decidable.decide (y0 ≤ 7))
 (K2 Bool.true)
 (K2 (Decidable.decide (10 ≤ y0))))
 (K2 (Decidable.decide (10 ≤ y0)))))))
theorem F52_eq (N : Nat) (x1 : Int) : g52' N x1 = F52 N x1 := by
  refine (e52 N x1).trans ?_
  simp only [F63_eq, F68_eq, F52]
def g62' (N : Nat) (x1 : Int) : Option (Int) := f62 N (x1)
theorem e62 (N : Nat) (x1 : Int) : g62' N x1 =
  jp (fun (y0 : Bool) => br y0
 (some 0)
 (some x1))
 (fun K1 => br (Decidable.decide (x1 < 0))
 (K1 Bool.true)
 (K1 (Decidable.decide (31 < x1)))) := by kernel_rfl
def F62 (N : Nat) (x1 : Int) : Option (Int) :=
  jp (fun (y0 : Bool) => br y0
 (some 0)
 (some x1))
 (fun K1 => br (Decidable.decide (x1 < 0))
 (K1 Bool.true)
 (K1 (Decidable.decide (31 < x1))))
theorem F62_eq (N : Nat) (x1 : Int) : g62' N x1 = F62 N x1 := by
  refine (e62 N x1).trans ?_
  rfl
def g53' (N : Nat) (x1 : Int) : Option (Bool) := f53 N (x1)
theorem e53 (N : Nat) (x1 : Int) : g53' N x1 =
  bindS (g63' N x1) (fun (y0 : Int) => jp (fun (y1 : Bool) => some y1)
 (fun K2 => br (Decidable.decide (y0 = 3))
 (K2 Bool.true)
 (br (Decidable.decide (y0 = 5))
 (K2 Bool.true)
 (br (Decidable.decide (y0 = 7))
 (K2 Bool.true)
 (K2 (Decidable.decide (11 ≤ y0))))))) := by kernel_rfl
def F53 (N : Nat) (x1 : Int) : Option (Bool) :=
  bindS (F63 N x1) (fun (y0 : Int) => jp (fun (y1 : Bool) => some y1)
 (fun K2 => br (Decidable.decide (y0 = 3))
 (K2 Bool.true)
 (br (Decidable.decide (y0 = 5))
 (K2 Bool.true)
 (br (Decidable.decide (y0 = 7))
 (K2 Bool.true)
 (K2 (Decidable.decide (11 ≤ y0)))))))
theorem F53_eq (N : Nat) (x1 : Int) : g53' N x1 = F53 N x1 := by
  refine (e53 N x1).trans ?_
  simp only [F63_eq, F53]
def g39' (N : Nat) (x1 : (Int × (Int × (Int × (Int × (Int × (Bool × (Bool × (Int × Int))))))))) : Option (List Int) := f39 N (x1)
theorem e39 (N : Nat) (x1 : (Int × (Int × (Int × (Int × (Int × (Bool × (Bool × (Int × Int))))))))) : g39' N x1 =
  jp (fun (y0 : List Int) => jp (fun (y1 : List Int) => some y1)
 (fun K2 => jp (fun (y3 : Bool) => br y3
 (chk (Decidable.decide ((y0.length + [x1.2.2.2.1].length) * 8 ≤ lim)) (K2 (y0 ++ [x1.2.2.2.1])))
 (K2 y0))
 (fun K4 => bindS (g53' N x1.1) (fun (y5 : Bool) => br y5
 (bindS (g62' N x1.2.2.2.1) (fun (y6 : Int) => K4 (Decidable.decide (0 < y6))))
 (K4 Bool.false)))))
 (fun K7 => jp (fun (y8 : Bool) => br y8
 (K7 [x1.2.2.1])
 (K7 []))
 (fun K9 => bindS (g52' N x1.1) (fun (y10 : Bool) => br y10
 (bindS (g62' N x1.2.2.1) (fun (y11 : Int) => K9 (Decidable.decide (0 < y11))))
 (K9 Bool.false)))) := by kernel_rfl
def F39 (N : Nat) (x1 : (Int × (Int × (Int × (Int × (Int × (Bool × (Bool × (Int × Int))))))))) : Option (List Int) :=
  jp (fun (y0 : List Int) => jp (fun (y1 : List Int) => some y1)
 (fun K2 => jp (fun (y3 : Bool) => br y3
 (chk (Decidable.decide ((y0.length + [x1.2.2.2.1].length) * 8 ≤ lim)) (K2 (y0 ++ [x1.2.2.2.1])))
 (K2 y0))
 (fun K4 => bindS (F53 N x1.1) (fun (y5 : Bool) => br y5
 (bindS (F62 N x1.2.2.2.1) (fun (y6 : Int) => K4 (Decidable.decide (0 < y6))))
 (K4 Bool.false)))))
 (fun K7 => jp (fun (y8 : Bool) => br y8
 (K7 [x1.2.2.1])
 (K7 []))
 (fun K9 => bindS (F52 N x1.1) (fun (y10 : Bool) => br y10
 (bindS (F62 N x1.2.2.1) (fun (y11 : Int) => K9 (Decidable.decide (0 < y11))))
 (K9 Bool.false))))
theorem F39_eq (N : Nat) (x1 : (Int × (Int × (Int × (Int × (Int × (Bool × (Bool × (Int × Int))))))))) : g39' N x1 = F39 N x1 := by
  refine (e39 N x1).trans ?_
  simp only [F52_eq, F53_eq, F62_eq, F39]
def g37' (N : Nat) (x1 : List Int) (x2 : List Int) : Option (Bool) := f37 N (x1, x2)
theorem e37 (N : Nat) (x1 : List Int) (x2 : List Int) : g37' N x1 x2 =
  br (!Decidable.decide ((↑x1.length : Int) = (↑x2.length : Int)))
 (some Bool.false)
 (fixN N (fun again0 (y1 : Int) => br (Decidable.decide (y1 < (↑x1.length : Int)))
 (chk (Decidable.decide (0 ≤ y1) && Decidable.decide (y1 < (↑x1.length : Int))) (chk (Decidable.decide (0 ≤ y1) && Decidable.decide (y1 < (↑x2.length : Int))) (br (!Decidable.decide (x1.getD y1.toNat 0 = x2.getD y1.toNat 0))
 (some Bool.false)
 (again0 (IntKind.i64.wrap (y1 + 1))))))
 (some Bool.true))
 0) := by kernel_rfl
def F37 (N : Nat) (x1 : List Int) (x2 : List Int) : Option (Bool) :=
  br (!Decidable.decide ((↑x1.length : Int) = (↑x2.length : Int)))
 (some Bool.false)
 (fixN N (fun again0 (y1 : Int) => br (Decidable.decide (y1 < (↑x1.length : Int)))
 (chk (Decidable.decide (0 ≤ y1) && Decidable.decide (y1 < (↑x1.length : Int))) (chk (Decidable.decide (0 ≤ y1) && Decidable.decide (y1 < (↑x2.length : Int))) (br (!Decidable.decide (x1.getD y1.toNat 0 = x2.getD y1.toNat 0))
 (some Bool.false)
 (again0 (IntKind.i64.wrap (y1 + 1))))))
 (some Bool.true))
 0)
theorem F37_eq (N : Nat) (x1 : List Int) (x2 : List Int) : g37' N x1 x2 = F37 N x1 x2 := by
  refine (e37 N x1 x2).trans ?_
  rfl
def g40' (N : Nat) (x1 : (Int × (Int × (Int × (Int × (Int × (Bool × (Bool × (Int × Int))))))))) : Option (Int) := f40 N (x1)
theorem e40 (N : Nat) (x1 : (Int × (Int × (Int × (Int × (Int × (Bool × (Bool × (Int × Int))))))))) : g40' N x1 =
  bindS (g57' N x1.1) (fun (y0 : Int) => jp (fun (y1 : Bool) => br y1
 (some 0)
 (bindS (g61' N x1.2.1) (fun (y2 : Int) => some y2)))
 (fun K3 => br (Decidable.decide (y0 = 0))
 (K3 Bool.true)
 (br (Decidable.decide (y0 = 3))
 (K3 Bool.true)
 (br (Decidable.decide (y0 = 5))
 (K3 Bool.true)
 (br (Decidable.decide (y0 = 8))
 (K3 Bool.true)
 (K3 (Decidable.decide (y0 = 9)))))))) := by kernel_rfl
def F40 (N : Nat) (x1 : (Int × (Int × (Int × (Int × (Int × (Bool × (Bool × (Int × Int))))))))) : Option (Int) :=
  bindS (F57 N x1.1) (fun (y0 : Int) => jp (fun (y1 : Bool) => br y1
 (some 0)
 (bindS (F61 N x1.2.1) (fun (y2 : Int) => some y2)))
 (fun K3 => br (Decidable.decide (y0 = 0))
 (K3 Bool.true)
 (br (Decidable.decide (y0 = 3))
 (K3 Bool.true)
 (br (Decidable.decide (y0 = 5))
 (K3 Bool.true)
 (br (Decidable.decide (y0 = 8))
 (K3 Bool.true)
 (K3 (Decidable.decide (y0 = 9))))))))
theorem F40_eq (N : Nat) (x1 : (Int × (Int × (Int × (Int × (Int × (Bool × (Bool × (Int × Int))))))))) : g40' N x1 = F40 N x1 := by
  refine (e40 N x1).trans ?_
  simp only [F57_eq, F61_eq, F40]
def g51' (N : Nat) (x1 : Int) : Option (Bool) := f51 N (x1)
theorem e51 (N : Nat) (x1 : Int) : g51' N x1 =
  bindS (g63' N x1) (fun (y0 : Int) => jp (fun (y1 : Bool) => some y1)
 (fun K2 => br (!Decidable.decide (y0 = 0))
 (br (!Decidable.decide (y0 = 3))
 (br (!Decidable.decide (y0 = 5))
 (br (!Decidable.decide (y0 = 8))
 (K2 (!Decidable.decide (y0 = 9)))
 (K2 Bool.false))
 (K2 Bool.false))
 (K2 Bool.false))
 (K2 Bool.false))) := by kernel_rfl
def F51 (N : Nat) (x1 : Int) : Option (Bool) :=
  bindS (F63 N x1) (fun (y0 : Int) => jp (fun (y1 : Bool) => some y1)
 (fun K2 => br (!Decidable.decide (y0 = 0))
 (br (!Decidable.decide (y0 = 3))
 (br (!Decidable.decide (y0 = 5))
 (br (!Decidable.decide (y0 = 8))
 (K2 (!Decidable.decide (y0 = 9)))
 (K2 Bool.false))
 (K2 Bool.false))
 (K2 Bool.false))
 (K2 Bool.false)))
theorem F51_eq (N : Nat) (x1 : Int) : g51' N x1 = F51 N x1 := by
  refine (e51 N x1).trans ?_
  simp only [F63_eq, F51]
def g41' (N : Nat) (x1 : (Int × (Int × (Int × (Int × (Int × (Bool × (Bool × (Int × Int))))))))) : Option (Int) := f41 N (x1)
theorem e41 (N : Nat) (x1 : (Int × (Int × (Int × (Int × (Int × (Bool × (Bool × (Int × Int))))))))) : g41' N x1 =
  bindS (g51' N x1.1) (fun (y0 : Bool) => br (!y0)
 (some 0)
 (bindS (g62' N x1.2.1) (fun (y1 : Int) => some y1))) := by kernel_rfl
def F41 (N : Nat) (x1 : (Int × (Int × (Int × (Int × (Int × (Bool × (Bool × (Int × Int))))))))) : Option (Int) :=
  bindS (F51 N x1.1) (fun (y0 : Bool) => br (!y0)
 (some 0)
 (bindS (F62 N x1.2.1) (fun (y1 : Int) => some y1)))
theorem F41_eq (N : Nat) (x1 : (Int × (Int × (Int × (Int × (Int × (Bool × (Bool × (Int × Int))))))))) : g41' N x1 = F41 N x1 := by
  refine (e41 N x1).trans ?_
  simp only [F51_eq, F62_eq, F41]
def g8' (N : Nat) (x1 : (Int × (Int × (Int × (Int × (Int × (Bool × (Bool × (Int × Int))))))))) : Option (Bool) := f8 N (x1)
theorem e8 (N : Nat) (x1 : (Int × (Int × (Int × (Int × (Int × (Bool × (Bool × (Int × Int))))))))) : g8' N x1 =
  bindS (g24' N ) (fun (y0 : Bool) => br (!y0)
 (some Bool.false)
 (jp (fun (y1 : Bool) => some y1)
 (fun K2 => bindS (g24' N ) (fun (y3 : Bool) => br y3
 (bindS (g38' N x1) (fun (y4 : List Int) => bindS (g39' N x1) (fun (y5 : List Int) => bindS (g37' N y4 y5) (fun (y6 : Bool) => br y6
 (bindS (g40' N x1) (fun (y7 : Int) => bindS (g41' N x1) (fun (y8 : Int) => K2 (Decidable.decide (y7 = y8)))))
 (K2 Bool.false)))))
 (K2 Bool.false))))) := by kernel_rfl
def F8 (N : Nat) (x1 : (Int × (Int × (Int × (Int × (Int × (Bool × (Bool × (Int × Int))))))))) : Option (Bool) :=
  bindS (F24 N ) (fun (y0 : Bool) => br (!y0)
 (some Bool.false)
 (jp (fun (y1 : Bool) => some y1)
 (fun K2 => bindS (F24 N ) (fun (y3 : Bool) => br y3
 (bindS (F38 N x1) (fun (y4 : List Int) => bindS (F39 N x1) (fun (y5 : List Int) => bindS (F37 N y4 y5) (fun (y6 : Bool) => br y6
 (bindS (F40 N x1) (fun (y7 : Int) => bindS (F41 N x1) (fun (y8 : Int) => K2 (Decidable.decide (y7 = y8)))))
 (K2 Bool.false)))))
 (K2 Bool.false)))))
theorem F8_eq (N : Nat) (x1 : (Int × (Int × (Int × (Int × (Int × (Bool × (Bool × (Int × Int))))))))) : g8' N x1 = F8 N x1 := by
  refine (e8 N x1).trans ?_
  simp only [F24_eq, F37_eq, F38_eq, F39_eq, F40_eq, F41_eq, F8]
end Go.Proofs.Ytipdancojcdioaa
