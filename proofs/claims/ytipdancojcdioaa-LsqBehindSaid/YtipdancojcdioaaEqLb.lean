/- What the contracts' functions come to, as printed. No condition. -/
import Derived.Test.YtipdancojcdioaaConLb
import Derived.KernelRfl
namespace Go.Proofs.Ytipdancojcdioaa
open Go Go.Ev Go.Sh
set_option maxRecDepth 100000
set_option linter.unusedVariables false
def g72' (N : Nat) (x1 : Int) (x2 : List (Int × (Int × (Int × (Bool × (Int × (Bool × (Int × (Bool × (Int × (Bool × List Int))))))))))) : Option (Bool) := f72 N (x1, x2)
theorem e72 (N : Nat) (x1 : Int) (x2 : List (Int × (Int × (Int × (Bool × (Int × (Bool × (Int × (Bool × (Int × (Bool × List Int))))))))))) : g72' N x1 x2 =
  jp (fun (y0 : Bool) => some y0)
 (fun K1 => br (Decidable.decide (0 ≤ x1))
 (K1 (Decidable.decide (x1 < (↑x2.length : Int))))
 (K1 Bool.false)) := by kernel_rfl
def F72 (N : Nat) (x1 : Int) (x2 : List (Int × (Int × (Int × (Bool × (Int × (Bool × (Int × (Bool × (Int × (Bool × List Int))))))))))) : Option (Bool) :=
  jp (fun (y0 : Bool) => some y0)
 (fun K1 => br (Decidable.decide (0 ≤ x1))
 (K1 (Decidable.decide (x1 < (↑x2.length : Int))))
 (K1 Bool.false))
theorem F72_eq (N : Nat) (x1 : Int) (x2 : List (Int × (Int × (Int × (Bool × (Int × (Bool × (Int × (Bool × (Int × (Bool × List Int))))))))))) : g72' N x1 x2 = F72 N x1 x2 := by
  refine (e72 N x1 x2).trans ?_
  rfl
def g57' (N : Nat) (x1 : Int) : Option (Int) := f57 N (x1)
theorem e57 (N : Nat) (x1 : Int) : g57' N x1 =
  jp (fun (y0 : Bool) => br y0
 (some 0)
 (br (Decidable.decide (x1 ≤ 2))
 (some 1)
 (br (Decidable.decide (x1 ≤ 4))
 (some 2)
 (br (Decidable.decide (x1 ≤ 10))
 (some 3)
 (br (Decidable.decide (x1 ≤ 17))
 (some 4)
 (br (Decidable.decide (x1 ≤ 21))
 (some 5)
 (br (Decidable.decide (x1 ≤ 34))
 (some 6)
 (br (Decidable.decide (x1 ≤ 49))
 (some 7)
 (br (Decidable.decide (x1 ≤ 51))
 (some 8)
 (br (Decidable.decide (x1 ≤ 53))
 (some 9)
 (br (Decidable.decide (x1 ≤ 55))
 (some 10)
 (br (Decidable.decide (x1 ≤ 57))
 (some 11)
 (some 12)))))))))))))
 (fun K1 => br (Decidable.decide (x1 < 1))
 (K1 Bool.true)
 (K1 (Decidable.decide (75 < x1)))) := by kernel_rfl
def F57 (N : Nat) (x1 : Int) : Option (Int) :=
  jp (fun (y0 : Bool) => br y0
 (some 0)
 (br (Decidable.decide (x1 ≤ 2))
 (some 1)
 (br (Decidable.decide (x1 ≤ 4))
 (some 2)
 (br (Decidable.decide (x1 ≤ 10))
 (some 3)
 (br (Decidable.decide (x1 ≤ 17))
 (some 4)
 (br (Decidable.decide (x1 ≤ 21))
 (some 5)
 (br (Decidable.decide (x1 ≤ 34))
 (some 6)
 (br (Decidable.decide (x1 ≤ 49))
 (some 7)
 (br (Decidable.decide (x1 ≤ 51))
 (some 8)
 (br (Decidable.decide (x1 ≤ 53))
 (some 9)
 (br (Decidable.decide (x1 ≤ 55))
 (some 10)
 (br (Decidable.decide (x1 ≤ 57))
 (some 11)
 (some 12)))))))))))))
 (fun K1 => br (Decidable.decide (x1 < 1))
 (K1 Bool.true)
 (K1 (Decidable.decide (75 < x1))))
theorem F57_eq (N : Nat) (x1 : Int) : g57' N x1 = F57 N x1 := by
  refine (e57 N x1).trans ?_
  rfl
def g73' (N : Nat) (x1 : (Int × (Int × (Int × (Bool × (Int × (Bool × (Int × (Bool × (Int × (Bool × List Int))))))))))) : Option (Bool) := f73 N (x1)
theorem e73 (N : Nat) (x1 : (Int × (Int × (Int × (Bool × (Int × (Bool × (Int × (Bool × (Int × (Bool × List Int))))))))))) : g73' N x1 =
  bindS (g57' N x1.1) (fun (y0 : Int) => some (Decidable.decide (y0 = 4))) := by kernel_rfl
def F73 (N : Nat) (x1 : (Int × (Int × (Int × (Bool × (Int × (Bool × (Int × (Bool × (Int × (Bool × List Int))))))))))) : Option (Bool) :=
  bindS (F57 N x1.1) (fun (y0 : Int) => some (Decidable.decide (y0 = 4)))
theorem F73_eq (N : Nat) (x1 : (Int × (Int × (Int × (Bool × (Int × (Bool × (Int × (Bool × (Int × (Bool × List Int))))))))))) : g73' N x1 = F73 N x1 := by
  refine (e73 N x1).trans ?_
  simp only [F57_eq, F73]
def g74' (N : Nat) (x1 : (Int × (Int × (Int × (Bool × (Int × (Bool × (Int × (Bool × (Int × (Bool × List Int))))))))))) : Option (Bool) := f74 N (x1)
theorem e74 (N : Nat) (x1 : (Int × (Int × (Int × (Bool × (Int × (Bool × (Int × (Bool × (Int × (Bool × List Int))))))))))) : g74' N x1 =
  bindS (g57' N x1.1) (fun (y0 : Int) => some (Decidable.decide (10 ≤ y0))) := by kernel_rfl
def F74 (N : Nat) (x1 : (Int × (Int × (Int × (Bool × (Int × (Bool × (Int × (Bool × (Int × (Bool × List Int))))))))))) : Option (Bool) :=
  bindS (F57 N x1.1) (fun (y0 : Int) => some (Decidable.decide (10 ≤ y0)))
theorem F74_eq (N : Nat) (x1 : (Int × (Int × (Int × (Bool × (Int × (Bool × (Int × (Bool × (Int × (Bool × List Int))))))))))) : g74' N x1 = F74 N x1 := by
  refine (e74 N x1).trans ?_
  simp only [F57_eq, F74]
def g75' (N : Nat) (x1 : (Int × (Int × (Int × (Bool × (Int × (Bool × (Int × (Bool × (Int × (Bool × List Int))))))))))) : Option (Bool) := f75 N (x1)
theorem e75 (N : Nat) (x1 : (Int × (Int × (Int × (Bool × (Int × (Bool × (Int × (Bool × (Int × (Bool × List Int))))))))))) : g75' N x1 =
  bindS (g57' N x1.1) (fun (y0 : Int) => some (Decidable.decide (y0 = 8))) := by kernel_rfl
def F75 (N : Nat) (x1 : (Int × (Int × (Int × (Bool × (Int × (Bool × (Int × (Bool × (Int × (Bool × List Int))))))))))) : Option (Bool) :=
  bindS (F57 N x1.1) (fun (y0 : Int) => some (Decidable.decide (y0 = 8)))
theorem F75_eq (N : Nat) (x1 : (Int × (Int × (Int × (Bool × (Int × (Bool × (Int × (Bool × (Int × (Bool × List Int))))))))))) : g75' N x1 = F75 N x1 := by
  refine (e75 N x1).trans ?_
  simp only [F57_eq, F75]
def g77' (N : Nat) (x1 : (Int × (Int × (Int × (Bool × (Int × (Bool × (Int × (Bool × (Int × (Bool × List Int))))))))))) : Option (Bool) := f77 N (x1)
theorem e77 (N : Nat) (x1 : (Int × (Int × (Int × (Bool × (Int × (Bool × (Int × (Bool × (Int × (Bool × List Int))))))))))) : g77' N x1 =
  bindS (g57' N x1.1) (fun (y0 : Int) => some (Decidable.decide (y0 = 5))) := by kernel_rfl
def F77 (N : Nat) (x1 : (Int × (Int × (Int × (Bool × (Int × (Bool × (Int × (Bool × (Int × (Bool × List Int))))))))))) : Option (Bool) :=
  bindS (F57 N x1.1) (fun (y0 : Int) => some (Decidable.decide (y0 = 5)))
theorem F77_eq (N : Nat) (x1 : (Int × (Int × (Int × (Bool × (Int × (Bool × (Int × (Bool × (Int × (Bool × List Int))))))))))) : g77' N x1 = F77 N x1 := by
  refine (e77 N x1).trans ?_
  simp only [F57_eq, F77]
def g45' (N : Nat) (x1 : Int) (x2 : Bool) (x3 : List (Int × (Int × (Int × (Bool × (Int × (Bool × (Int × (Bool × (Int × (Bool × List Int))))))))))) : Option (Bool) := f45 N (x1, x2, x3)
theorem e45 (N : Nat) (x1 : Int) (x2 : Bool) (x3 : List (Int × (Int × (Int × (Bool × (Int × (Bool × (Int × (Bool × (Int × (Bool × List Int))))))))))) : g45' N x1 x2 x3 =
  jp (fun (y0 : Bool) => br y0
 (some Bool.false)
 (chk (Decidable.decide (0 ≤ x1) && Decidable.decide (x1 < (↑x3.length : Int))) (jp (fun (y1 : Bool) => jp (fun (y2 : Bool) => chk (Decidable.decide (0 ≤ x1) && Nat.ble 0 x1.toNat && x1.toNat.ble x3.length) (fixN N (fun again3 (y4 : Int) => br (Decidable.decide (y4 < (↑(x1.toNat - 0) : Int)))
 (chk (Decidable.decide (0 ≤ y4) && Decidable.decide (y4 < (↑(x1.toNat - 0) : Int))) (jp (fun (y5 : Bool) => br y5
 (some Bool.false)
 (again3 (IntKind.i64.wrap (y4 + 1))))
 (fun K6 => jp (fun (y7 : Bool) => br y7
 (K6 Bool.true)
 (jp (fun (y8 : Bool) => br y8
 (K6 Bool.true)
 (bindS (g73' N ((x3.getD (0 + 0 + y4.toNat) (0, 0, 0, Bool.false, 0, Bool.false, 0, Bool.false, 0, Bool.false, List.replicate 8 0)))) (fun (y9 : Bool) => br y9
 (br y1
 (K6 (!(x3.getD (0 + 0 + y4.toNat)
                        (0, 0, 0, Bool.false, 0, Bool.false, 0, Bool.false, 0, Bool.false,
                          List.replicate 8 0)).2.2.2.2.2.2.2.2.2.1))
 (K6 Bool.false))
 (K6 Bool.false))))
 (fun K10 => bindS (g77' N ((x3.getD (0 + 0 + y4.toNat) (0, 0, 0, Bool.false, 0, Bool.false, 0, Bool.false, 0, Bool.false, List.replicate 8 0)))) (fun (y11 : Bool) => br y11
 (K10 y2)
 (K10 Bool.false)))))
 (fun K12 => bindS (g74' N ((x3.getD (0 + 0 + y4.toNat) (0, 0, 0, Bool.false, 0, Bool.false, 0, Bool.false, 0, Bool.false, List.replicate 8 0)))) (fun (y13 : Bool) => br y13
 (br y1
 (K12 Bool.true)
 (K12 y2))
 (K12 Bool.false))))))
 (jp (fun (y14 : Bool) => some y14)
 (fun K15 => br x2
 (K15 Bool.true)
 (K15 (!y2)))))
 0))
 (fun K16 => br (Decidable.decide
  ((x3.getD x1.toNat (0, 0, 0, Bool.false, 0, Bool.false, 0, Bool.false, 0, Bool.false, List.replicate 8 0)).1 = 50))
 (K16 (!Decidable.decide
    (Go.bits Go.BinOp.and IntKind.i64
        (x3.getD x1.toNat (0, 0, 0, Bool.false, 0, Bool.false, 0, Bool.false, 0, Bool.false, List.replicate 8 0)).2.1
        1 =
      0)))
 (K16 Bool.false)))
 (fun K17 => br (Decidable.decide
  ((x3.getD x1.toNat (0, 0, 0, Bool.false, 0, Bool.false, 0, Bool.false, 0, Bool.false, List.replicate 8 0)).1 = 51))
 (K17 Bool.true)
 (K17 (!Decidable.decide
    (Go.bits Go.BinOp.and IntKind.i64
        (x3.getD x1.toNat (0, 0, 0, Bool.false, 0, Bool.false, 0, Bool.false, 0, Bool.false, List.replicate 8 0)).2.1
        2 =
      0)))))))
 (fun K18 => bindS (g72' N x1 x3) (fun (y19 : Bool) => br (!y19)
 (K18 Bool.true)
 (chk (Decidable.decide (0 ≤ x1) && Decidable.decide (x1 < (↑x3.length : Int))) (bindS (g75' N ((x3.getD x1.toNat (0, 0, 0, Bool.false, 0, Bool.false, 0, Bool.false, 0, Bool.false, List.replicate 8 0)))) (fun (y20 : Bool) => K18 (!y20)))))) := by kernel_rfl
def F45 (N : Nat) (x1 : Int) (x2 : Bool) (x3 : List (Int × (Int × (Int × (Bool × (Int × (Bool × (Int × (Bool × (Int × (Bool × List Int))))))))))) : Option (Bool) :=
  jp (fun (y0 : Bool) => br y0
 (some Bool.false)
 (chk (Decidable.decide (0 ≤ x1) && Decidable.decide (x1 < (↑x3.length : Int))) (jp (fun (y1 : Bool) => jp (fun (y2 : Bool) => chk (Decidable.decide (0 ≤ x1) && Nat.ble 0 x1.toNat && x1.toNat.ble x3.length) (fixN N (fun again3 (y4 : Int) => br (Decidable.decide (y4 < (↑(x1.toNat - 0) : Int)))
 (chk (Decidable.decide (0 ≤ y4) && Decidable.decide (y4 < (↑(x1.toNat - 0) : Int))) (jp (fun (y5 : Bool) => br y5
 (some Bool.false)
 (again3 (IntKind.i64.wrap (y4 + 1))))
 (fun K6 => jp (fun (y7 : Bool) => br y7
 (K6 Bool.true)
 (jp (fun (y8 : Bool) => br y8
 (K6 Bool.true)
 (bindS (F73 N ((x3.getD (0 + 0 + y4.toNat) (0, 0, 0, Bool.false, 0, Bool.false, 0, Bool.false, 0, Bool.false, List.replicate 8 0)))) (fun (y9 : Bool) => br y9
 (br y1
 (K6 (!(x3.getD (0 + 0 + y4.toNat)
                        (0, 0, 0, Bool.false, 0, Bool.false, 0, Bool.false, 0, Bool.false,
                          List.replicate 8 0)).2.2.2.2.2.2.2.2.2.1))
 (K6 Bool.false))
 (K6 Bool.false))))
 (fun K10 => bindS (F77 N ((x3.getD (0 + 0 + y4.toNat) (0, 0, 0, Bool.false, 0, Bool.false, 0, Bool.false, 0, Bool.false, List.replicate 8 0)))) (fun (y11 : Bool) => br y11
 (K10 y2)
 (K10 Bool.false)))))
 (fun K12 => bindS (F74 N ((x3.getD (0 + 0 + y4.toNat) (0, 0, 0, Bool.false, 0, Bool.false, 0, Bool.false, 0, Bool.false, List.replicate 8 0)))) (fun (y13 : Bool) => br y13
 (br y1
 (K12 Bool.true)
 (K12 y2))
 (K12 Bool.false))))))
 (jp (fun (y14 : Bool) => some y14)
 (fun K15 => br x2
 (K15 Bool.true)
 (K15 (!y2)))))
 0))
 (fun K16 => br (Decidable.decide
  ((x3.getD x1.toNat (0, 0, 0, Bool.false, 0, Bool.false, 0, Bool.false, 0, Bool.false, List.replicate 8 0)).1 = 50))
 (K16 (!Decidable.decide
    (Go.bits Go.BinOp.and IntKind.i64
        (x3.getD x1.toNat (0, 0, 0, Bool.false, 0, Bool.false, 0, Bool.false, 0, Bool.false, List.replicate 8 0)).2.1
        1 =
      0)))
 (K16 Bool.false)))
 (fun K17 => br (Decidable.decide
  ((x3.getD x1.toNat (0, 0, 0, Bool.false, 0, Bool.false, 0, Bool.false, 0, Bool.false, List.replicate 8 0)).1 = 51))
 (K17 Bool.true)
 (K17 (!Decidable.decide
    (Go.bits Go.BinOp.and IntKind.i64
        (x3.getD x1.toNat (0, 0, 0, Bool.false, 0, Bool.false, 0, Bool.false, 0, Bool.false, List.replicate 8 0)).2.1
        2 =
      0)))))))
 (fun K18 => bindS (F72 N x1 x3) (fun (y19 : Bool) => br (!y19)
 (K18 Bool.true)
 (chk (Decidable.decide (0 ≤ x1) && Decidable.decide (x1 < (↑x3.length : Int))) (bindS (F75 N ((x3.getD x1.toNat (0, 0, 0, Bool.false, 0, Bool.false, 0, Bool.false, 0, Bool.false, List.replicate 8 0)))) (fun (y20 : Bool) => K18 (!y20))))))
theorem F45_eq (N : Nat) (x1 : Int) (x2 : Bool) (x3 : List (Int × (Int × (Int × (Bool × (Int × (Bool × (Int × (Bool × (Int × (Bool × List Int))))))))))) : g45' N x1 x2 x3 = F45 N x1 x2 x3 := by
  refine (e45 N x1 x2 x3).trans ?_
  simp only [F72_eq, F73_eq, F74_eq, F75_eq, F77_eq, F45]
def g58' (N : Nat) (x1 : Int) : Option (Int) := f58 N (x1)
theorem e58 (N : Nat) (x1 : Int) : g58' N x1 =
  jp (fun (y0 : Bool) => br y0
 (some 1)
 (jp (fun (y1 : Bool) => br y1
 (some 2)
 (jp (fun (y2 : Bool) => br y2
 (some 4)
 (jp (fun (y3 : Bool) => br y3
 (some 8)
 (bindS (g57' N x1) (fun (y4 : Int) => br (!Decidable.decide (y4 = 12))
 (some 0)
 (br (Decidable.decide (x1 ≤ 66))
 (some 4)
 (some 8)))))
 (fun K5 => br (Decidable.decide (x1 = 14))
 (K5 Bool.true)
 (br (Decidable.decide (x1 = 21))
 (K5 Bool.true)
 (br (Decidable.decide (x1 = 55))
 (K5 Bool.true)
 (K5 (Decidable.decide (x1 = 57))))))))
 (fun K6 => br (Decidable.decide (x1 = 13))
 (K6 Bool.true)
 (br (Decidable.decide (x1 = 17))
 (K6 Bool.true)
 (br (Decidable.decide (x1 = 20))
 (K6 Bool.true)
 (br (Decidable.decide (x1 = 54))
 (K6 Bool.true)
 (K6 (Decidable.decide (x1 = 56)))))))))
 (fun K7 => br (Decidable.decide (x1 = 12))
 (K7 Bool.true)
 (br (Decidable.decide (x1 = 16))
 (K7 Bool.true)
 (K7 (Decidable.decide (x1 = 19)))))))
 (fun K8 => br (Decidable.decide (x1 = 11))
 (K8 Bool.true)
 (br (Decidable.decide (x1 = 15))
 (K8 Bool.true)
 (K8 (Decidable.decide (x1 = 18))))) := by kernel_rfl
def F58 (N : Nat) (x1 : Int) : Option (Int) :=
  jp (fun (y0 : Bool) => br y0
 (some 1)
 (jp (fun (y1 : Bool) => br y1
 (some 2)
 (jp (fun (y2 : Bool) => br y2
 (some 4)
 (jp (fun (y3 : Bool) => br y3
 (some 8)
 (bindS (F57 N x1) (fun (y4 : Int) => br (!Decidable.decide (y4 = 12))
 (some 0)
 (br (Decidable.decide (x1 ≤ 66))
 (some 4)
 (some 8)))))
 (fun K5 => br (Decidable.decide (x1 = 14))
 (K5 Bool.true)
 (br (Decidable.decide (x1 = 21))
 (K5 Bool.true)
 (br (Decidable.decide (x1 = 55))
 (K5 Bool.true)
 (K5 (Decidable.decide (x1 = 57))))))))
 (fun K6 => br (Decidable.decide (x1 = 13))
 (K6 Bool.true)
 (br (Decidable.decide (x1 = 17))
 (K6 Bool.true)
 (br (Decidable.decide (x1 = 20))
 (K6 Bool.true)
 (br (Decidable.decide (x1 = 54))
 (K6 Bool.true)
 (K6 (Decidable.decide (x1 = 56)))))))))
 (fun K7 => br (Decidable.decide (x1 = 12))
 (K7 Bool.true)
 (br (Decidable.decide (x1 = 16))
 (K7 Bool.true)
 (K7 (Decidable.decide (x1 = 19)))))))
 (fun K8 => br (Decidable.decide (x1 = 11))
 (K8 Bool.true)
 (br (Decidable.decide (x1 = 15))
 (K8 Bool.true)
 (K8 (Decidable.decide (x1 = 18)))))
theorem F58_eq (N : Nat) (x1 : Int) : g58' N x1 = F58 N x1 := by
  refine (e58 N x1).trans ?_
  simp only [F57_eq, F58]
def g98' (N : Nat) (x1 : Int) (x2 : Int) : Option (Bool) := f98 N (x1, x2)
theorem e98 (N : Nat) (x1 : Int) (x2 : Int) : g98' N x1 x2 =
  jp (fun (y0 : Bool) => some y0)
 (fun K1 => br (Decidable.decide (0 ≤ x1))
 (br (Decidable.decide (x1 ≤ 1099511627776))
 (br (Decidable.decide (1 ≤ x2))
 (K1 (Decidable.decide (x2 ≤ 8)))
 (K1 Bool.false))
 (K1 Bool.false))
 (K1 Bool.false)) := by kernel_rfl
def F98 (N : Nat) (x1 : Int) (x2 : Int) : Option (Bool) :=
  jp (fun (y0 : Bool) => some y0)
 (fun K1 => br (Decidable.decide (0 ≤ x1))
 (br (Decidable.decide (x1 ≤ 1099511627776))
 (br (Decidable.decide (1 ≤ x2))
 (K1 (Decidable.decide (x2 ≤ 8)))
 (K1 Bool.false))
 (K1 Bool.false))
 (K1 Bool.false))
theorem F98_eq (N : Nat) (x1 : Int) (x2 : Int) : g98' N x1 x2 = F98 N x1 x2 := by
  refine (e98 N x1 x2).trans ?_
  rfl
def g81' (N : Nat) (x1 : Int) (x2 : Int) (x3 : Int) (x4 : Int) : Option (Bool) := f81 N (x1, x2, x3, x4)
theorem e81 (N : Nat) (x1 : Int) (x2 : Int) (x3 : Int) (x4 : Int) : g81' N x1 x2 x3 x4 =
  jp (fun (y0 : Bool) => br y0
 (some Bool.false)
 (jp (fun (y1 : Bool) => some y1)
 (fun K2 => fixN N (fun again3 (y4 : Bool × Int) => br (Decidable.decide (y4.2 < x2))
 (fixN N (fun again5 (y6 : Bool × Int) => br (Decidable.decide (y6.2 < x4))
 (br (Decidable.decide (IntKind.i64.wrap (x1 + y4.2) = IntKind.i64.wrap (x3 + y6.2)))
 (K2 Bool.true)
 (again5 ((y6.1, IntKind.i64.wrap (y6.2 + 1)))))
 (again3 ((y6.1, IntKind.i64.wrap (y4.2 + 1)))))
 ((y4.1, 0)))
 (K2 y4.1))
 ((Bool.false, 0)))))
 (fun K7 => bindS (g98' N x1 x2) (fun (y8 : Bool) => br (!y8)
 (K7 Bool.true)
 (bindS (g98' N x3 x4) (fun (y9 : Bool) => K7 (!y9))))) := by kernel_rfl
def F81 (N : Nat) (x1 : Int) (x2 : Int) (x3 : Int) (x4 : Int) : Option (Bool) :=
  jp (fun (y0 : Bool) => br y0
 (some Bool.false)
 (jp (fun (y1 : Bool) => some y1)
 (fun K2 => fixN N (fun again3 (y4 : Bool × Int) => br (Decidable.decide (y4.2 < x2))
 (fixN N (fun again5 (y6 : Bool × Int) => br (Decidable.decide (y6.2 < x4))
 (br (Decidable.decide (IntKind.i64.wrap (x1 + y4.2) = IntKind.i64.wrap (x3 + y6.2)))
 (K2 Bool.true)
 (again5 ((y6.1, IntKind.i64.wrap (y6.2 + 1)))))
 (again3 ((y6.1, IntKind.i64.wrap (y4.2 + 1)))))
 ((y4.1, 0)))
 (K2 y4.1))
 ((Bool.false, 0)))))
 (fun K7 => bindS (F98 N x1 x2) (fun (y8 : Bool) => br (!y8)
 (K7 Bool.true)
 (bindS (F98 N x3 x4) (fun (y9 : Bool) => K7 (!y9)))))
theorem F81_eq (N : Nat) (x1 : Int) (x2 : Int) (x3 : Int) (x4 : Int) : g81' N x1 x2 x3 x4 = F81 N x1 x2 x3 x4 := by
  refine (e81 N x1 x2 x3 x4).trans ?_
  simp only [F98_eq, F81]
def g76' (N : Nat) (x1 : (Int × (Int × (Int × (Bool × (Int × (Bool × (Int × (Bool × (Int × (Bool × List Int))))))))))) (x2 : (Int × (Int × (Int × (Bool × (Int × (Bool × (Int × (Bool × (Int × (Bool × List Int))))))))))) : Option (Bool) := f76 N (x1, x2)
theorem e76 (N : Nat) (x1 : (Int × (Int × (Int × (Bool × (Int × (Bool × (Int × (Bool × (Int × (Bool × List Int))))))))))) (x2 : (Int × (Int × (Int × (Bool × (Int × (Bool × (Int × (Bool × (Int × (Bool × List Int))))))))))) : g76' N x1 x2 =
  jp (fun (y0 : Bool) => some y0)
 (fun K1 => br x1.2.2.2.2.2.1
 (br x2.2.2.2.2.2.1
 (bindS (g58' N x1.1) (fun (y2 : Int) => bindS (g58' N x2.1) (fun (y3 : Int) => bindS (g81' N x1.2.2.2.2.2.2.1 y2 x2.2.2.2.2.2.2.1 y3) (fun (y4 : Bool) => K1 y4))))
 (K1 Bool.false))
 (K1 Bool.false)) := by kernel_rfl
def F76 (N : Nat) (x1 : (Int × (Int × (Int × (Bool × (Int × (Bool × (Int × (Bool × (Int × (Bool × List Int))))))))))) (x2 : (Int × (Int × (Int × (Bool × (Int × (Bool × (Int × (Bool × (Int × (Bool × List Int))))))))))) : Option (Bool) :=
  jp (fun (y0 : Bool) => some y0)
 (fun K1 => br x1.2.2.2.2.2.1
 (br x2.2.2.2.2.2.1
 (bindS (F58 N x1.1) (fun (y2 : Int) => bindS (F58 N x2.1) (fun (y3 : Int) => bindS (F81 N x1.2.2.2.2.2.2.1 y2 x2.2.2.2.2.2.2.1 y3) (fun (y4 : Bool) => K1 y4))))
 (K1 Bool.false))
 (K1 Bool.false))
theorem F76_eq (N : Nat) (x1 : (Int × (Int × (Int × (Bool × (Int × (Bool × (Int × (Bool × (Int × (Bool × List Int))))))))))) (x2 : (Int × (Int × (Int × (Bool × (Int × (Bool × (Int × (Bool × (Int × (Bool × List Int))))))))))) : g76' N x1 x2 = F76 N x1 x2 := by
  refine (e76 N x1 x2).trans ?_
  simp only [F58_eq, F81_eq, F76]
def g82' (N : Nat) (x1 : (Int × (Int × (Int × (Bool × (Int × (Bool × (Int × (Bool × (Int × (Bool × List Int))))))))))) (x2 : Int) : Option (Bool) := f82 N (x1, x2)
theorem e82 (N : Nat) (x1 : (Int × (Int × (Int × (Bool × (Int × (Bool × (Int × (Bool × (Int × (Bool × List Int))))))))))) (x2 : Int) : g82' N x1 x2 =
  bindS (g58' N x1.1) (fun (y0 : Int) => jp (fun (y1 : Bool) => some y1)
 (fun K2 => br x1.2.2.2.2.2.1
 (bindS (g81' N x1.2.2.2.2.2.2.1 y0 x1.2.2.2.2.2.2.1 1) (fun (y3 : Bool) => br y3
 (br (Decidable.decide (x1.2.2.2.2.2.2.1 ≤ x2))
 (K2 (Decidable.decide (IntKind.i64.wrap (x2 - x1.2.2.2.2.2.2.1) < y0)))
 (K2 Bool.false))
 (K2 Bool.false)))
 (K2 Bool.false))) := by kernel_rfl
def F82 (N : Nat) (x1 : (Int × (Int × (Int × (Bool × (Int × (Bool × (Int × (Bool × (Int × (Bool × List Int))))))))))) (x2 : Int) : Option (Bool) :=
  bindS (F58 N x1.1) (fun (y0 : Int) => jp (fun (y1 : Bool) => some y1)
 (fun K2 => br x1.2.2.2.2.2.1
 (bindS (F81 N x1.2.2.2.2.2.2.1 y0 x1.2.2.2.2.2.2.1 1) (fun (y3 : Bool) => br y3
 (br (Decidable.decide (x1.2.2.2.2.2.2.1 ≤ x2))
 (K2 (Decidable.decide (IntKind.i64.wrap (x2 - x1.2.2.2.2.2.2.1) < y0)))
 (K2 Bool.false))
 (K2 Bool.false)))
 (K2 Bool.false)))
theorem F82_eq (N : Nat) (x1 : (Int × (Int × (Int × (Bool × (Int × (Bool × (Int × (Bool × (Int × (Bool × List Int))))))))))) (x2 : Int) : g82' N x1 x2 = F82 N x1 x2 := by
  refine (e82 N x1 x2).trans ?_
  simp only [F58_eq, F81_eq, F82]
def g69' (N : Nat) (x1 : Int) (x2 : Int) (x3 : List (Int × (Int × (Int × (Bool × (Int × (Bool × (Int × (Bool × (Int × (Bool × List Int))))))))))) : Option (Int) := f69 N (x1, x2, x3)
theorem e69 (N : Nat) (x1 : Int) (x2 : Int) (x3 : List (Int × (Int × (Int × (Bool × (Int × (Bool × (Int × (Bool × (Int × (Bool × List Int))))))))))) : g69' N x1 x2 x3 =
  jp (fun (y0 : Bool) => br y0
 (some (-1))
 (fixN N (fun again1 (y2 : Int) => br (Decidable.decide (0 ≤ y2))
 (jp (fun (y3 : Bool) => br y3
 (some y2)
 (again1 (IntKind.i64.wrap (y2 - 1))))
 (fun K4 => chk (Decidable.decide (0 ≤ y2) && Decidable.decide (y2 < (↑x3.length : Int))) (bindS (g77' N ((x3.getD y2.toNat (0, 0, 0, Bool.false, 0, Bool.false, 0, Bool.false, 0, Bool.false, List.replicate 8 0)))) (fun (y5 : Bool) => br y5
 (chk (Decidable.decide (0 ≤ y2) && Decidable.decide (y2 < (↑x3.length : Int))) (chk (Decidable.decide (0 ≤ x1) && Decidable.decide (x1 < (↑x3.length : Int))) (bindS (g82' N (x3.getD y2.toNat (0, 0, 0, Bool.false, 0, Bool.false, 0, Bool.false, 0, Bool.false, List.replicate 8 0)) (IntKind.i64.wrap
      ((x3.getD x1.toNat
                        (0, 0, 0, Bool.false, 0, Bool.false, 0, Bool.false, 0, Bool.false,
                          List.replicate 8 0)).2.2.2.2.2.2.1 +
        x2))) (fun (y6 : Bool) => K4 y6))))
 (K4 Bool.false)))))
 (some (-1)))
 (IntKind.i64.wrap (x1 - 1))))
 (fun K7 => bindS (g72' N x1 x3) (fun (y8 : Bool) => br (!y8)
 (K7 Bool.true)
 (chk (Decidable.decide (0 ≤ x1) && Decidable.decide (x1 < (↑x3.length : Int))) (br (!(x3.getD x1.toNat (0, 0, 0, Bool.false, 0, Bool.false, 0, Bool.false, 0, Bool.false, List.replicate 8 0)).2.2.2.2.2.1)
 (K7 Bool.true)
 (br (Decidable.decide (x2 < 0))
 (K7 Bool.true)
 (chk (Decidable.decide (0 ≤ x1) && Decidable.decide (x1 < (↑x3.length : Int))) (bindS (g58' N ((x3.getD x1.toNat (0, 0, 0, Bool.false, 0, Bool.false, 0, Bool.false, 0, Bool.false, List.replicate 8 0))).1) (fun (y9 : Int) => br (Decidable.decide (y9 ≤ x2))
 (K7 Bool.true)
 (chk (Decidable.decide (0 ≤ x1) && Decidable.decide (x1 < (↑x3.length : Int))) (chk (Decidable.decide (0 ≤ x1) && Decidable.decide (x1 < (↑x3.length : Int))) (bindS (g81' N ((x3.getD x1.toNat
                    (0, 0, 0, Bool.false, 0, Bool.false, 0, Bool.false, 0, Bool.false,
                      List.replicate 8 0)).2.2.2.2.2.2.1) 1 ((x3.getD x1.toNat
                    (0, 0, 0, Bool.false, 0, Bool.false, 0, Bool.false, 0, Bool.false,
                      List.replicate 8 0)).2.2.2.2.2.2.1) 1) (fun (y10 : Bool) => K7 (!y10))))))))))))) := by kernel_rfl
def F69 (N : Nat) (x1 : Int) (x2 : Int) (x3 : List (Int × (Int × (Int × (Bool × (Int × (Bool × (Int × (Bool × (Int × (Bool × List Int))))))))))) : Option (Int) :=
  jp (fun (y0 : Bool) => br y0
 (some (-1))
 (fixN N (fun again1 (y2 : Int) => br (Decidable.decide (0 ≤ y2))
 (jp (fun (y3 : Bool) => br y3
 (some y2)
 (again1 (IntKind.i64.wrap (y2 - 1))))
 (fun K4 => chk (Decidable.decide (0 ≤ y2) && Decidable.decide (y2 < (↑x3.length : Int))) (bindS (F77 N ((x3.getD y2.toNat (0, 0, 0, Bool.false, 0, Bool.false, 0, Bool.false, 0, Bool.false, List.replicate 8 0)))) (fun (y5 : Bool) => br y5
 (chk (Decidable.decide (0 ≤ y2) && Decidable.decide (y2 < (↑x3.length : Int))) (chk (Decidable.decide (0 ≤ x1) && Decidable.decide (x1 < (↑x3.length : Int))) (bindS (F82 N (x3.getD y2.toNat (0, 0, 0, Bool.false, 0, Bool.false, 0, Bool.false, 0, Bool.false, List.replicate 8 0)) (IntKind.i64.wrap
      ((x3.getD x1.toNat
                        (0, 0, 0, Bool.false, 0, Bool.false, 0, Bool.false, 0, Bool.false,
                          List.replicate 8 0)).2.2.2.2.2.2.1 +
        x2))) (fun (y6 : Bool) => K4 y6))))
 (K4 Bool.false)))))
 (some (-1)))
 (IntKind.i64.wrap (x1 - 1))))
 (fun K7 => bindS (F72 N x1 x3) (fun (y8 : Bool) => br (!y8)
 (K7 Bool.true)
 (chk (Decidable.decide (0 ≤ x1) && Decidable.decide (x1 < (↑x3.length : Int))) (br (!(x3.getD x1.toNat (0, 0, 0, Bool.false, 0, Bool.false, 0, Bool.false, 0, Bool.false, List.replicate 8 0)).2.2.2.2.2.1)
 (K7 Bool.true)
 (br (Decidable.decide (x2 < 0))
 (K7 Bool.true)
 (chk (Decidable.decide (0 ≤ x1) && Decidable.decide (x1 < (↑x3.length : Int))) (bindS (F58 N ((x3.getD x1.toNat (0, 0, 0, Bool.false, 0, Bool.false, 0, Bool.false, 0, Bool.false, List.replicate 8 0))).1) (fun (y9 : Int) => br (Decidable.decide (y9 ≤ x2))
 (K7 Bool.true)
 (chk (Decidable.decide (0 ≤ x1) && Decidable.decide (x1 < (↑x3.length : Int))) (chk (Decidable.decide (0 ≤ x1) && Decidable.decide (x1 < (↑x3.length : Int))) (bindS (F81 N ((x3.getD x1.toNat
                    (0, 0, 0, Bool.false, 0, Bool.false, 0, Bool.false, 0, Bool.false,
                      List.replicate 8 0)).2.2.2.2.2.2.1) 1 ((x3.getD x1.toNat
                    (0, 0, 0, Bool.false, 0, Bool.false, 0, Bool.false, 0, Bool.false,
                      List.replicate 8 0)).2.2.2.2.2.2.1) 1) (fun (y10 : Bool) => K7 (!y10)))))))))))))
theorem F69_eq (N : Nat) (x1 : Int) (x2 : Int) (x3 : List (Int × (Int × (Int × (Bool × (Int × (Bool × (Int × (Bool × (Int × (Bool × List Int))))))))))) : g69' N x1 x2 x3 = F69 N x1 x2 x3 := by
  refine (e69 N x1 x2 x3).trans ?_
  simp only [F58_eq, F72_eq, F77_eq, F81_eq, F82_eq, F69]
def g44' (N : Nat) (x1 : Int) (x2 : Bool) (x3 : List (Int × (Int × (Int × (Bool × (Int × (Bool × (Int × (Bool × (Int × (Bool × List Int))))))))))) : Option (Int) := f44 N (x1, x2, x3)
theorem e44 (N : Nat) (x1 : Int) (x2 : Bool) (x3 : List (Int × (Int × (Int × (Bool × (Int × (Bool × (Int × (Bool × (Int × (Bool × List Int))))))))))) : g44' N x1 x2 x3 =
  jp (fun (y0 : Bool) => br y0
 (some (-1))
 (chk (Decidable.decide (0 ≤ x1) && Nat.ble 0 x1.toNat && x1.toNat.ble x3.length) (fixN N (fun again1 (y2 : Int) => br (Decidable.decide (y2 < (↑(x1.toNat - 0) : Int)))
 (chk (Decidable.decide (0 ≤ y2) && Decidable.decide (y2 < (↑(x1.toNat - 0) : Int))) (jp (fun (y3 : Bool) => br y3
 (some 1)
 (again1 (IntKind.i64.wrap (y2 + 1))))
 (fun K4 => bindS (g74' N ((x3.getD (0 + 0 + y2.toNat) (0, 0, 0, Bool.false, 0, Bool.false, 0, Bool.false, 0, Bool.false, List.replicate 8 0)))) (fun (y5 : Bool) => br y5
 (K4 ((x3.getD (0 + 0 + y2.toNat)
          (0, 0, 0, Bool.false, 0, Bool.false, 0, Bool.false, 0, Bool.false, List.replicate 8 0)).2.2.2.1))
 (K4 Bool.false)))))
 (chk (Decidable.decide (0 ≤ x1) && Nat.ble 0 x1.toNat && x1.toNat.ble x3.length) (fixN N (fun again6 (y7 : Int) => br (Decidable.decide (y7 < (↑(x1.toNat - 0) : Int)))
 (chk (Decidable.decide (0 ≤ y7) && Decidable.decide (y7 < (↑(x1.toNat - 0) : Int))) (jp (fun (y8 : Bool) => br y8
 (some 2)
 (again6 (IntKind.i64.wrap (y7 + 1))))
 (fun K9 => bindS (g75' N ((x3.getD (0 + 0 + y7.toNat) (0, 0, 0, Bool.false, 0, Bool.false, 0, Bool.false, 0, Bool.false, List.replicate 8 0)))) (fun (y10 : Bool) => br y10
 (br (Decidable.decide
  ((x3.getD (0 + 0 + y7.toNat)
        (0, 0, 0, Bool.false, 0, Bool.false, 0, Bool.false, 0, Bool.false, List.replicate 8 0)).1 =
    51))
 (bindS (g45' N y7 x2 x3) (fun (y11 : Bool) => K9 (!y11)))
 (br (!Decidable.decide
    (Go.bits Go.BinOp.and IntKind.i64
        (x3.getD (0 + 0 + y7.toNat)
                (0, 0, 0, Bool.false, 0, Bool.false, 0, Bool.false, 0, Bool.false, List.replicate 8 0)).2.2.1
        2 =
      0))
 (bindS (g45' N y7 x2 x3) (fun (y12 : Bool) => K9 (!y12)))
 (K9 Bool.false)))
 (K9 Bool.false)))))
 (chk (Decidable.decide (0 ≤ x1) && Nat.ble 0 x1.toNat && x1.toNat.ble x3.length) (fixN N (fun again13 (y14 : Int) => br (Decidable.decide (y14 < (↑(x1.toNat - 0) : Int)))
 (chk (Decidable.decide (0 ≤ y14) && Decidable.decide (y14 < (↑(x1.toNat - 0) : Int))) (jp (fun (y15 : Bool) => br y15
 (some 3)
 (again13 (IntKind.i64.wrap (y14 + 1))))
 (fun K16 => bindS (g74' N ((x3.getD (0 + 0 + y14.toNat) (0, 0, 0, Bool.false, 0, Bool.false, 0, Bool.false, 0, Bool.false, List.replicate 8 0)))) (fun (y17 : Bool) => br y17
 (chk (Decidable.decide (0 ≤ x1) && Decidable.decide (x1 < (↑x3.length : Int))) (bindS (g76' N (x3.getD (0 + 0 + y14.toNat) (0, 0, 0, Bool.false, 0, Bool.false, 0, Bool.false, 0, Bool.false, List.replicate 8 0)) (x3.getD x1.toNat (0, 0, 0, Bool.false, 0, Bool.false, 0, Bool.false, 0, Bool.false, List.replicate 8 0))) (fun (y18 : Bool) => K16 y18)))
 (K16 Bool.false)))))
 (chk (Decidable.decide (0 ≤ x1) && Decidable.decide (x1 < (↑x3.length : Int))) (bindS (g58' N ((x3.getD x1.toNat (0, 0, 0, Bool.false, 0, Bool.false, 0, Bool.false, 0, Bool.false, List.replicate 8 0))).1) (fun (y19 : Int) => fixN N (fun again20 (y21 : Int) => br (Decidable.decide (y21 < y19))
 (bindS (g69' N x1 y21 x3) (fun (y22 : Int) => jp (fun (y23 : Bool) => br y23
 (some 4)
 (again20 (IntKind.i64.wrap (y21 + 1))))
 (fun K24 => br (Decidable.decide (0 ≤ y22))
 (chk (Decidable.decide (0 ≤ y22) && Decidable.decide (y22 < (↑x3.length : Int))) (K24 (!(x3.getD y22.toNat
                    (0, 0, 0, Bool.false, 0, Bool.false, 0, Bool.false, 0, Bool.false,
                      List.replicate 8 0)).2.2.2.2.2.2.2.1)))
 (K24 Bool.false))))
 (some 0))
 0))))
 0)))
 0)))
 0)))
 (fun K25 => bindS (g72' N x1 x3) (fun (y26 : Bool) => br (!y26)
 (K25 Bool.true)
 (chk (Decidable.decide (0 ≤ x1) && Decidable.decide (x1 < (↑x3.length : Int))) (bindS (g73' N ((x3.getD x1.toNat (0, 0, 0, Bool.false, 0, Bool.false, 0, Bool.false, 0, Bool.false, List.replicate 8 0)))) (fun (y27 : Bool) => br (!y27)
 (K25 Bool.true)
 (chk (Decidable.decide (0 ≤ x1) && Decidable.decide (x1 < (↑x3.length : Int))) (br (!(x3.getD x1.toNat (0, 0, 0, Bool.false, 0, Bool.false, 0, Bool.false, 0, Bool.false, List.replicate 8 0)).2.2.2.2.2.1)
 (K25 Bool.true)
 (chk (Decidable.decide (0 ≤ x1) && Decidable.decide (x1 < (↑x3.length : Int))) (K25 ((x3.getD x1.toNat
                      (0, 0, 0, Bool.false, 0, Bool.false, 0, Bool.false, 0, Bool.false,
                        List.replicate 8 0)).2.2.2.2.2.2.2.2.2.1)))))))))) := by kernel_rfl
def F44 (N : Nat) (x1 : Int) (x2 : Bool) (x3 : List (Int × (Int × (Int × (Bool × (Int × (Bool × (Int × (Bool × (Int × (Bool × List Int))))))))))) : Option (Int) :=
  jp (fun (y0 : Bool) => br y0
 (some (-1))
 (chk (Decidable.decide (0 ≤ x1) && Nat.ble 0 x1.toNat && x1.toNat.ble x3.length) (fixN N (fun again1 (y2 : Int) => br (Decidable.decide (y2 < (↑(x1.toNat - 0) : Int)))
 (chk (Decidable.decide (0 ≤ y2) && Decidable.decide (y2 < (↑(x1.toNat - 0) : Int))) (jp (fun (y3 : Bool) => br y3
 (some 1)
 (again1 (IntKind.i64.wrap (y2 + 1))))
 (fun K4 => bindS (F74 N ((x3.getD (0 + 0 + y2.toNat) (0, 0, 0, Bool.false, 0, Bool.false, 0, Bool.false, 0, Bool.false, List.replicate 8 0)))) (fun (y5 : Bool) => br y5
 (K4 ((x3.getD (0 + 0 + y2.toNat)
          (0, 0, 0, Bool.false, 0, Bool.false, 0, Bool.false, 0, Bool.false, List.replicate 8 0)).2.2.2.1))
 (K4 Bool.false)))))
 (chk (Decidable.decide (0 ≤ x1) && Nat.ble 0 x1.toNat && x1.toNat.ble x3.length) (fixN N (fun again6 (y7 : Int) => br (Decidable.decide (y7 < (↑(x1.toNat - 0) : Int)))
 (chk (Decidable.decide (0 ≤ y7) && Decidable.decide (y7 < (↑(x1.toNat - 0) : Int))) (jp (fun (y8 : Bool) => br y8
 (some 2)
 (again6 (IntKind.i64.wrap (y7 + 1))))
 (fun K9 => bindS (F75 N ((x3.getD (0 + 0 + y7.toNat) (0, 0, 0, Bool.false, 0, Bool.false, 0, Bool.false, 0, Bool.false, List.replicate 8 0)))) (fun (y10 : Bool) => br y10
 (br (Decidable.decide
  ((x3.getD (0 + 0 + y7.toNat)
        (0, 0, 0, Bool.false, 0, Bool.false, 0, Bool.false, 0, Bool.false, List.replicate 8 0)).1 =
    51))
 (bindS (F45 N y7 x2 x3) (fun (y11 : Bool) => K9 (!y11)))
 (br (!Decidable.decide
    (Go.bits Go.BinOp.and IntKind.i64
        (x3.getD (0 + 0 + y7.toNat)
                (0, 0, 0, Bool.false, 0, Bool.false, 0, Bool.false, 0, Bool.false, List.replicate 8 0)).2.2.1
        2 =
      0))
 (bindS (F45 N y7 x2 x3) (fun (y12 : Bool) => K9 (!y12)))
 (K9 Bool.false)))
 (K9 Bool.false)))))
 (chk (Decidable.decide (0 ≤ x1) && Nat.ble 0 x1.toNat && x1.toNat.ble x3.length) (fixN N (fun again13 (y14 : Int) => br (Decidable.decide (y14 < (↑(x1.toNat - 0) : Int)))
 (chk (Decidable.decide (0 ≤ y14) && Decidable.decide (y14 < (↑(x1.toNat - 0) : Int))) (jp (fun (y15 : Bool) => br y15
 (some 3)
 (again13 (IntKind.i64.wrap (y14 + 1))))
 (fun K16 => bindS (F74 N ((x3.getD (0 + 0 + y14.toNat) (0, 0, 0, Bool.false, 0, Bool.false, 0, Bool.false, 0, Bool.false, List.replicate 8 0)))) (fun (y17 : Bool) => br y17
 (chk (Decidable.decide (0 ≤ x1) && Decidable.decide (x1 < (↑x3.length : Int))) (bindS (F76 N (x3.getD (0 + 0 + y14.toNat) (0, 0, 0, Bool.false, 0, Bool.false, 0, Bool.false, 0, Bool.false, List.replicate 8 0)) (x3.getD x1.toNat (0, 0, 0, Bool.false, 0, Bool.false, 0, Bool.false, 0, Bool.false, List.replicate 8 0))) (fun (y18 : Bool) => K16 y18)))
 (K16 Bool.false)))))
 (chk (Decidable.decide (0 ≤ x1) && Decidable.decide (x1 < (↑x3.length : Int))) (bindS (F58 N ((x3.getD x1.toNat (0, 0, 0, Bool.false, 0, Bool.false, 0, Bool.false, 0, Bool.false, List.replicate 8 0))).1) (fun (y19 : Int) => fixN N (fun again20 (y21 : Int) => br (Decidable.decide (y21 < y19))
 (bindS (F69 N x1 y21 x3) (fun (y22 : Int) => jp (fun (y23 : Bool) => br y23
 (some 4)
 (again20 (IntKind.i64.wrap (y21 + 1))))
 (fun K24 => br (Decidable.decide (0 ≤ y22))
 (chk (Decidable.decide (0 ≤ y22) && Decidable.decide (y22 < (↑x3.length : Int))) (K24 (!(x3.getD y22.toNat
                    (0, 0, 0, Bool.false, 0, Bool.false, 0, Bool.false, 0, Bool.false,
                      List.replicate 8 0)).2.2.2.2.2.2.2.1)))
 (K24 Bool.false))))
 (some 0))
 0))))
 0)))
 0)))
 0)))
 (fun K25 => bindS (F72 N x1 x3) (fun (y26 : Bool) => br (!y26)
 (K25 Bool.true)
 (chk (Decidable.decide (0 ≤ x1) && Decidable.decide (x1 < (↑x3.length : Int))) (bindS (F73 N ((x3.getD x1.toNat (0, 0, 0, Bool.false, 0, Bool.false, 0, Bool.false, 0, Bool.false, List.replicate 8 0)))) (fun (y27 : Bool) => br (!y27)
 (K25 Bool.true)
 (chk (Decidable.decide (0 ≤ x1) && Decidable.decide (x1 < (↑x3.length : Int))) (br (!(x3.getD x1.toNat (0, 0, 0, Bool.false, 0, Bool.false, 0, Bool.false, 0, Bool.false, List.replicate 8 0)).2.2.2.2.2.1)
 (K25 Bool.true)
 (chk (Decidable.decide (0 ≤ x1) && Decidable.decide (x1 < (↑x3.length : Int))) (K25 ((x3.getD x1.toNat
                      (0, 0, 0, Bool.false, 0, Bool.false, 0, Bool.false, 0, Bool.false,
                        List.replicate 8 0)).2.2.2.2.2.2.2.2.2.1))))))))))
theorem F44_eq (N : Nat) (x1 : Int) (x2 : Bool) (x3 : List (Int × (Int × (Int × (Bool × (Int × (Bool × (Int × (Bool × (Int × (Bool × List Int))))))))))) : g44' N x1 x2 x3 = F44 N x1 x2 x3 := by
  refine (e44 N x1 x2 x3).trans ?_
  simp only [F45_eq, F58_eq, F69_eq, F72_eq, F73_eq, F74_eq, F75_eq, F76_eq, F44]
def g70' (N : Nat) (x1 : Int) (x2 : List (Int × (Int × (Int × (Bool × (Int × (Bool × (Int × (Bool × (Int × (Bool × List Int))))))))))) : Option (Int) := f70 N (x1, x2)
theorem e70 (N : Nat) (x1 : Int) (x2 : List (Int × (Int × (Int × (Bool × (Int × (Bool × (Int × (Bool × (Int × (Bool × List Int))))))))))) : g70' N x1 x2 =
  jp (fun (y0 : Bool) => br y0
 (some (-1))
 (fixN N (fun again1 (y2 : Int) => br (Decidable.decide (y2 < (↑x2.length : Int)))
 (jp (fun (y3 : Bool) => br y3
 (some y2)
 (again1 (IntKind.i64.wrap (y2 + 1))))
 (fun K4 => chk (Decidable.decide (0 ≤ y2) && Decidable.decide (y2 < (↑x2.length : Int))) (bindS (g73' N ((x2.getD y2.toNat (0, 0, 0, Bool.false, 0, Bool.false, 0, Bool.false, 0, Bool.false, List.replicate 8 0)))) (fun (y5 : Bool) => br y5
 (chk (Decidable.decide (0 ≤ y2) && Decidable.decide (y2 < (↑x2.length : Int))) (br ((x2.getD y2.toNat
                      (0, 0, 0, Bool.false, 0, Bool.false, 0, Bool.false, 0, Bool.false,
                        List.replicate 8 0)).2.2.2.2.2.2.2.2.2.1)
 (chk (Decidable.decide (0 ≤ x1) && Decidable.decide (x1 < (↑x2.length : Int))) (chk (Decidable.decide (0 ≤ y2) && Decidable.decide (y2 < (↑x2.length : Int))) (bindS (g76' N (x2.getD x1.toNat (0, 0, 0, Bool.false, 0, Bool.false, 0, Bool.false, 0, Bool.false, List.replicate 8 0)) (x2.getD y2.toNat (0, 0, 0, Bool.false, 0, Bool.false, 0, Bool.false, 0, Bool.false, List.replicate 8 0))) (fun (y6 : Bool) => K4 y6))))
 (K4 Bool.false)))
 (K4 Bool.false)))))
 (some (-1)))
 (IntKind.i64.wrap (x1 + 1))))
 (fun K7 => bindS (g72' N x1 x2) (fun (y8 : Bool) => br (!y8)
 (K7 Bool.true)
 (chk (Decidable.decide (0 ≤ x1) && Decidable.decide (x1 < (↑x2.length : Int))) (bindS (g77' N ((x2.getD x1.toNat (0, 0, 0, Bool.false, 0, Bool.false, 0, Bool.false, 0, Bool.false, List.replicate 8 0)))) (fun (y9 : Bool) => br (!y9)
 (chk (Decidable.decide (0 ≤ x1) && Decidable.decide (x1 < (↑x2.length : Int))) (bindS (g74' N ((x2.getD x1.toNat (0, 0, 0, Bool.false, 0, Bool.false, 0, Bool.false, 0, Bool.false, List.replicate 8 0)))) (fun (y10 : Bool) => K7 (!y10))))
 (K7 Bool.false)))))) := by kernel_rfl
def F70 (N : Nat) (x1 : Int) (x2 : List (Int × (Int × (Int × (Bool × (Int × (Bool × (Int × (Bool × (Int × (Bool × List Int))))))))))) : Option (Int) :=
  jp (fun (y0 : Bool) => br y0
 (some (-1))
 (fixN N (fun again1 (y2 : Int) => br (Decidable.decide (y2 < (↑x2.length : Int)))
 (jp (fun (y3 : Bool) => br y3
 (some y2)
 (again1 (IntKind.i64.wrap (y2 + 1))))
 (fun K4 => chk (Decidable.decide (0 ≤ y2) && Decidable.decide (y2 < (↑x2.length : Int))) (bindS (F73 N ((x2.getD y2.toNat (0, 0, 0, Bool.false, 0, Bool.false, 0, Bool.false, 0, Bool.false, List.replicate 8 0)))) (fun (y5 : Bool) => br y5
 (chk (Decidable.decide (0 ≤ y2) && Decidable.decide (y2 < (↑x2.length : Int))) (br ((x2.getD y2.toNat
                      (0, 0, 0, Bool.false, 0, Bool.false, 0, Bool.false, 0, Bool.false,
                        List.replicate 8 0)).2.2.2.2.2.2.2.2.2.1)
 (chk (Decidable.decide (0 ≤ x1) && Decidable.decide (x1 < (↑x2.length : Int))) (chk (Decidable.decide (0 ≤ y2) && Decidable.decide (y2 < (↑x2.length : Int))) (bindS (F76 N (x2.getD x1.toNat (0, 0, 0, Bool.false, 0, Bool.false, 0, Bool.false, 0, Bool.false, List.replicate 8 0)) (x2.getD y2.toNat (0, 0, 0, Bool.false, 0, Bool.false, 0, Bool.false, 0, Bool.false, List.replicate 8 0))) (fun (y6 : Bool) => K4 y6))))
 (K4 Bool.false)))
 (K4 Bool.false)))))
 (some (-1)))
 (IntKind.i64.wrap (x1 + 1))))
 (fun K7 => bindS (F72 N x1 x2) (fun (y8 : Bool) => br (!y8)
 (K7 Bool.true)
 (chk (Decidable.decide (0 ≤ x1) && Decidable.decide (x1 < (↑x2.length : Int))) (bindS (F77 N ((x2.getD x1.toNat (0, 0, 0, Bool.false, 0, Bool.false, 0, Bool.false, 0, Bool.false, List.replicate 8 0)))) (fun (y9 : Bool) => br (!y9)
 (chk (Decidable.decide (0 ≤ x1) && Decidable.decide (x1 < (↑x2.length : Int))) (bindS (F74 N ((x2.getD x1.toNat (0, 0, 0, Bool.false, 0, Bool.false, 0, Bool.false, 0, Bool.false, List.replicate 8 0)))) (fun (y10 : Bool) => K7 (!y10))))
 (K7 Bool.false))))))
theorem F70_eq (N : Nat) (x1 : Int) (x2 : List (Int × (Int × (Int × (Bool × (Int × (Bool × (Int × (Bool × (Int × (Bool × List Int))))))))))) : g70' N x1 x2 = F70 N x1 x2 := by
  refine (e70 N x1 x2).trans ?_
  simp only [F72_eq, F73_eq, F74_eq, F76_eq, F77_eq, F70]
def g83' (N : Nat) (x1 : (Int × (Int × (Int × (Bool × (Int × (Bool × (Int × (Bool × (Int × (Bool × List Int))))))))))) : Option (Bool) := f83 N (x1)
theorem e83 (N : Nat) (x1 : (Int × (Int × (Int × (Bool × (Int × (Bool × (Int × (Bool × (Int × (Bool × List Int))))))))))) : g83' N x1 =
  jp (fun (y0 : Bool) => some y0)
 (fun K1 => bindS (g73' N x1) (fun (y2 : Bool) => br y2
 (br x1.2.2.2.2.2.1
 (K1 x1.2.2.2.2.2.2.2.2.2.1)
 (K1 Bool.false))
 (K1 Bool.false))) := by kernel_rfl
def F83 (N : Nat) (x1 : (Int × (Int × (Int × (Bool × (Int × (Bool × (Int × (Bool × (Int × (Bool × List Int))))))))))) : Option (Bool) :=
  jp (fun (y0 : Bool) => some y0)
 (fun K1 => bindS (F73 N x1) (fun (y2 : Bool) => br y2
 (br x1.2.2.2.2.2.1
 (K1 x1.2.2.2.2.2.2.2.2.2.1)
 (K1 Bool.false))
 (K1 Bool.false)))
theorem F83_eq (N : Nat) (x1 : (Int × (Int × (Int × (Bool × (Int × (Bool × (Int × (Bool × (Int × (Bool × List Int))))))))))) : g83' N x1 = F83 N x1 := by
  refine (e83 N x1).trans ?_
  simp only [F73_eq, F83]
def g71' (N : Nat) (x1 : Int) (x2 : List (Int × (Int × (Int × (Bool × (Int × (Bool × (Int × (Bool × (Int × (Bool × List Int))))))))))) : Option (Int) := f71 N (x1, x2)
theorem e71 (N : Nat) (x1 : Int) (x2 : List (Int × (Int × (Int × (Bool × (Int × (Bool × (Int × (Bool × (Int × (Bool × List Int))))))))))) : g71' N x1 x2 =
  jp (fun (y0 : Bool) => br y0
 (some (-1))
 (chk (Decidable.decide (0 ≤ x1) && Decidable.decide (x1 < (↑x2.length : Int))) (fixN N (fun again1 (y2 : Int) => br (Decidable.decide (y2 < (↑x2.length : Int)))
 (jp (fun (y3 : PUnit) => again1 (IntKind.i64.wrap (y2 + 1)))
 (fun K4 => chk (Decidable.decide (0 ≤ y2) && Decidable.decide (y2 < (↑x2.length : Int))) (jp (fun (y5 : Bool) => br y5
 (K4 ())
 (bindS (g58' N ((x2.getD x1.toNat (0, 0, 0, Bool.false, 0, Bool.false, 0, Bool.false, 0, Bool.false, List.replicate 8 0))).1) (fun (y6 : Int) => fixN N (fun again7 (y8 : Int) => br (Decidable.decide (y8 < y6))
 (jp (fun (y9 : PUnit) => again7 (IntKind.i64.wrap (y8 + 1)))
 (fun K10 => jp (fun (y11 : Bool) => br y11
 (K10 ())
 (chk (Decidable.decide (0 ≤ IntKind.i64.wrap (x1 + 1)) && Decidable.decide (0 ≤ y2) &&
    (IntKind.i64.wrap (x1 + 1)).toNat.ble y2.toNat &&
  y2.toNat.ble x2.length) (fixN N (fun again12 (y13 : Int) => br (Decidable.decide (y13 < (↑(y2.toNat - (IntKind.i64.wrap (x1 + 1)).toNat) : Int)))
 (chk (Decidable.decide (0 ≤ y13) && Decidable.decide (y13 < (↑(y2.toNat - (IntKind.i64.wrap (x1 + 1)).toNat) : Int))) (jp (fun (y14 : Bool) => br y14
 (K10 ())
 (again12 (IntKind.i64.wrap (y13 + 1))))
 (fun K15 => bindS (g77' N ((x2.getD (0 + (IntKind.i64.wrap (x1 + 1)).toNat + y13.toNat)
    (0, 0, 0, Bool.false, 0, Bool.false, 0, Bool.false, 0, Bool.false, List.replicate 8 0)))) (fun (y16 : Bool) => br y16
 (bindS (g82' N (x2.getD (0 + (IntKind.i64.wrap (x1 + 1)).toNat + y13.toNat)
      (0, 0, 0, Bool.false, 0, Bool.false, 0, Bool.false, 0, Bool.false, List.replicate 8 0)) (IntKind.i64.wrap
      ((x2.getD x1.toNat
                        (0, 0, 0, Bool.false, 0, Bool.false, 0, Bool.false, 0, Bool.false,
                          List.replicate 8 0)).2.2.2.2.2.2.1 +
        y8))) (fun (y17 : Bool) => K15 y17))
 (K15 Bool.false)))))
 (some y2))
 0)))
 (fun K18 => br (Decidable.decide
  (IntKind.i64.wrap
      (IntKind.i64.wrap
          ((x2.getD x1.toNat
                            (0, 0, 0, Bool.false, 0, Bool.false, 0, Bool.false, 0, Bool.false,
                              List.replicate 8 0)).2.2.2.2.2.2.1 +
            y8) -
        (x2.getD y2.toNat
                        (0, 0, 0, Bool.false, 0, Bool.false, 0, Bool.false, 0, Bool.false,
                          List.replicate 8 0)).2.2.2.2.2.2.1) <
    0))
 (K18 Bool.true)
 (bindS (g58' N ((x2.getD y2.toNat (0, 0, 0, Bool.false, 0, Bool.false, 0, Bool.false, 0, Bool.false, List.replicate 8 0))).1) (fun (y19 : Int) => br (Decidable.decide
  (y19 ≤
    IntKind.i64.wrap
      (IntKind.i64.wrap
          ((x2.getD x1.toNat
                            (0, 0, 0, Bool.false, 0, Bool.false, 0, Bool.false, 0, Bool.false,
                              List.replicate 8 0)).2.2.2.2.2.2.1 +
            y8) -
        (x2.getD y2.toNat
                        (0, 0, 0, Bool.false, 0, Bool.false, 0, Bool.false, 0, Bool.false,
                          List.replicate 8 0)).2.2.2.2.2.2.1)))
 (K18 Bool.true)
 (chk (Decidable.decide (0 ≤ y8) && Decidable.decide (y8 < (↑8 : Int))) (chk (Decidable.decide
    (0 ≤
      IntKind.i64.wrap
        (IntKind.i64.wrap
            ((x2.getD x1.toNat
                              (0, 0, 0, Bool.false, 0, Bool.false, 0, Bool.false, 0, Bool.false,
                                List.replicate 8 0)).2.2.2.2.2.2.1 +
              y8) -
          (x2.getD y2.toNat
                          (0, 0, 0, Bool.false, 0, Bool.false, 0, Bool.false, 0, Bool.false,
                            List.replicate 8 0)).2.2.2.2.2.2.1)) &&
  Decidable.decide
    (IntKind.i64.wrap
        (IntKind.i64.wrap
            ((x2.getD x1.toNat
                              (0, 0, 0, Bool.false, 0, Bool.false, 0, Bool.false, 0, Bool.false,
                                List.replicate 8 0)).2.2.2.2.2.2.1 +
              y8) -
          (x2.getD y2.toNat
                          (0, 0, 0, Bool.false, 0, Bool.false, 0, Bool.false, 0, Bool.false,
                            List.replicate 8 0)).2.2.2.2.2.2.1) <
      (↑8 : Int))) (K18 (Decidable.decide
  (List.getD
      (x2.getD x1.toNat
                            (0, 0, 0, Bool.false, 0, Bool.false, 0, Bool.false, 0, Bool.false,
                              List.replicate 8 0)).2.2.2.2.2.2.2.2.2.2
      y8.toNat 0 =
    List.getD
      (x2.getD y2.toNat
                            (0, 0, 0, Bool.false, 0, Bool.false, 0, Bool.false, 0, Bool.false,
                              List.replicate 8 0)).2.2.2.2.2.2.2.2.2.2
      (IntKind.i64.wrap
          (IntKind.i64.wrap
              ((x2.getD x1.toNat
                                (0, 0, 0, Bool.false, 0, Bool.false, 0, Bool.false, 0, Bool.false,
                                  List.replicate 8 0)).2.2.2.2.2.2.1 +
                y8) -
            (x2.getD y2.toNat
                            (0, 0, 0, Bool.false, 0, Bool.false, 0, Bool.false, 0, Bool.false,
                              List.replicate 8 0)).2.2.2.2.2.2.1)).toNat
      0))))))))))
 (K4 ()))
 0)))
 (fun K20 => bindS (g83' N ((x2.getD y2.toNat (0, 0, 0, Bool.false, 0, Bool.false, 0, Bool.false, 0, Bool.false, List.replicate 8 0)))) (fun (y21 : Bool) => br (!y21)
 (K20 Bool.true)
 (bindS (g76' N (x2.getD x1.toNat (0, 0, 0, Bool.false, 0, Bool.false, 0, Bool.false, 0, Bool.false, List.replicate 8 0)) (x2.getD y2.toNat (0, 0, 0, Bool.false, 0, Bool.false, 0, Bool.false, 0, Bool.false, List.replicate 8 0))) (fun (y22 : Bool) => K20 (!y22))))))))
 (some (-1)))
 (IntKind.i64.wrap (x1 + 1)))))
 (fun K23 => bindS (g72' N x1 x2) (fun (y24 : Bool) => br (!y24)
 (K23 Bool.true)
 (chk (Decidable.decide (0 ≤ x1) && Decidable.decide (x1 < (↑x2.length : Int))) (bindS (g83' N ((x2.getD x1.toNat (0, 0, 0, Bool.false, 0, Bool.false, 0, Bool.false, 0, Bool.false, List.replicate 8 0)))) (fun (y25 : Bool) => K23 (!y25)))))) := by kernel_rfl
def F71 (N : Nat) (x1 : Int) (x2 : List (Int × (Int × (Int × (Bool × (Int × (Bool × (Int × (Bool × (Int × (Bool × List Int))))))))))) : Option (Int) :=
  jp (fun (y0 : Bool) => br y0
 (some (-1))
 (chk (Decidable.decide (0 ≤ x1) && Decidable.decide (x1 < (↑x2.length : Int))) (fixN N (fun again1 (y2 : Int) => br (Decidable.decide (y2 < (↑x2.length : Int)))
 (jp (fun (y3 : PUnit) => again1 (IntKind.i64.wrap (y2 + 1)))
 (fun K4 => chk (Decidable.decide (0 ≤ y2) && Decidable.decide (y2 < (↑x2.length : Int))) (jp (fun (y5 : Bool) => br y5
 (K4 ())
 (bindS (F58 N ((x2.getD x1.toNat (0, 0, 0, Bool.false, 0, Bool.false, 0, Bool.false, 0, Bool.false, List.replicate 8 0))).1) (fun (y6 : Int) => fixN N (fun again7 (y8 : Int) => br (Decidable.decide (y8 < y6))
 (jp (fun (y9 : PUnit) => again7 (IntKind.i64.wrap (y8 + 1)))
 (fun K10 => jp (fun (y11 : Bool) => br y11
 (K10 ())
 (chk (Decidable.decide (0 ≤ IntKind.i64.wrap (x1 + 1)) && Decidable.decide (0 ≤ y2) &&
    (IntKind.i64.wrap (x1 + 1)).toNat.ble y2.toNat &&
  y2.toNat.ble x2.length) (fixN N (fun again12 (y13 : Int) => br (Decidable.decide (y13 < (↑(y2.toNat - (IntKind.i64.wrap (x1 + 1)).toNat) : Int)))
 (chk (Decidable.decide (0 ≤ y13) && Decidable.decide (y13 < (↑(y2.toNat - (IntKind.i64.wrap (x1 + 1)).toNat) : Int))) (jp (fun (y14 : Bool) => br y14
 (K10 ())
 (again12 (IntKind.i64.wrap (y13 + 1))))
 (fun K15 => bindS (F77 N ((x2.getD (0 + (IntKind.i64.wrap (x1 + 1)).toNat + y13.toNat)
    (0, 0, 0, Bool.false, 0, Bool.false, 0, Bool.false, 0, Bool.false, List.replicate 8 0)))) (fun (y16 : Bool) => br y16
 (bindS (F82 N (x2.getD (0 + (IntKind.i64.wrap (x1 + 1)).toNat + y13.toNat)
      (0, 0, 0, Bool.false, 0, Bool.false, 0, Bool.false, 0, Bool.false, List.replicate 8 0)) (IntKind.i64.wrap
      ((x2.getD x1.toNat
                        (0, 0, 0, Bool.false, 0, Bool.false, 0, Bool.false, 0, Bool.false,
                          List.replicate 8 0)).2.2.2.2.2.2.1 +
        y8))) (fun (y17 : Bool) => K15 y17))
 (K15 Bool.false)))))
 (some y2))
 0)))
 (fun K18 => br (Decidable.decide
  (IntKind.i64.wrap
      (IntKind.i64.wrap
          ((x2.getD x1.toNat
                            (0, 0, 0, Bool.false, 0, Bool.false, 0, Bool.false, 0, Bool.false,
                              List.replicate 8 0)).2.2.2.2.2.2.1 +
            y8) -
        (x2.getD y2.toNat
                        (0, 0, 0, Bool.false, 0, Bool.false, 0, Bool.false, 0, Bool.false,
                          List.replicate 8 0)).2.2.2.2.2.2.1) <
    0))
 (K18 Bool.true)
 (bindS (F58 N ((x2.getD y2.toNat (0, 0, 0, Bool.false, 0, Bool.false, 0, Bool.false, 0, Bool.false, List.replicate 8 0))).1) (fun (y19 : Int) => br (Decidable.decide
  (y19 ≤
    IntKind.i64.wrap
      (IntKind.i64.wrap
          ((x2.getD x1.toNat
                            (0, 0, 0, Bool.false, 0, Bool.false, 0, Bool.false, 0, Bool.false,
                              List.replicate 8 0)).2.2.2.2.2.2.1 +
            y8) -
        (x2.getD y2.toNat
                        (0, 0, 0, Bool.false, 0, Bool.false, 0, Bool.false, 0, Bool.false,
                          List.replicate 8 0)).2.2.2.2.2.2.1)))
 (K18 Bool.true)
 (chk (Decidable.decide (0 ≤ y8) && Decidable.decide (y8 < (↑8 : Int))) (chk (Decidable.decide
    (0 ≤
      IntKind.i64.wrap
        (IntKind.i64.wrap
            ((x2.getD x1.toNat
                              (0, 0, 0, Bool.false, 0, Bool.false, 0, Bool.false, 0, Bool.false,
                                List.replicate 8 0)).2.2.2.2.2.2.1 +
              y8) -
          (x2.getD y2.toNat
                          (0, 0, 0, Bool.false, 0, Bool.false, 0, Bool.false, 0, Bool.false,
                            List.replicate 8 0)).2.2.2.2.2.2.1)) &&
  Decidable.decide
    (IntKind.i64.wrap
        (IntKind.i64.wrap
            ((x2.getD x1.toNat
                              (0, 0, 0, Bool.false, 0, Bool.false, 0, Bool.false, 0, Bool.false,
                                List.replicate 8 0)).2.2.2.2.2.2.1 +
              y8) -
          (x2.getD y2.toNat
                          (0, 0, 0, Bool.false, 0, Bool.false, 0, Bool.false, 0, Bool.false,
                            List.replicate 8 0)).2.2.2.2.2.2.1) <
      (↑8 : Int))) (K18 (Decidable.decide
  (List.getD
      (x2.getD x1.toNat
                            (0, 0, 0, Bool.false, 0, Bool.false, 0, Bool.false, 0, Bool.false,
                              List.replicate 8 0)).2.2.2.2.2.2.2.2.2.2
      y8.toNat 0 =
    List.getD
      (x2.getD y2.toNat
                            (0, 0, 0, Bool.false, 0, Bool.false, 0, Bool.false, 0, Bool.false,
                              List.replicate 8 0)).2.2.2.2.2.2.2.2.2.2
      (IntKind.i64.wrap
          (IntKind.i64.wrap
              ((x2.getD x1.toNat
                                (0, 0, 0, Bool.false, 0, Bool.false, 0, Bool.false, 0, Bool.false,
                                  List.replicate 8 0)).2.2.2.2.2.2.1 +
                y8) -
            (x2.getD y2.toNat
                            (0, 0, 0, Bool.false, 0, Bool.false, 0, Bool.false, 0, Bool.false,
                              List.replicate 8 0)).2.2.2.2.2.2.1)).toNat
      0))))))))))
 (K4 ()))
 0)))
 (fun K20 => bindS (F83 N ((x2.getD y2.toNat (0, 0, 0, Bool.false, 0, Bool.false, 0, Bool.false, 0, Bool.false, List.replicate 8 0)))) (fun (y21 : Bool) => br (!y21)
 (K20 Bool.true)
 (bindS (F76 N (x2.getD x1.toNat (0, 0, 0, Bool.false, 0, Bool.false, 0, Bool.false, 0, Bool.false, List.replicate 8 0)) (x2.getD y2.toNat (0, 0, 0, Bool.false, 0, Bool.false, 0, Bool.false, 0, Bool.false, List.replicate 8 0))) (fun (y22 : Bool) => K20 (!y22))))))))
 (some (-1)))
 (IntKind.i64.wrap (x1 + 1)))))
 (fun K23 => bindS (F72 N x1 x2) (fun (y24 : Bool) => br (!y24)
 (K23 Bool.true)
 (chk (Decidable.decide (0 ≤ x1) && Decidable.decide (x1 < (↑x2.length : Int))) (bindS (F83 N ((x2.getD x1.toNat (0, 0, 0, Bool.false, 0, Bool.false, 0, Bool.false, 0, Bool.false, List.replicate 8 0)))) (fun (y25 : Bool) => K23 (!y25))))))
theorem F71_eq (N : Nat) (x1 : Int) (x2 : List (Int × (Int × (Int × (Bool × (Int × (Bool × (Int × (Bool × (Int × (Bool × List Int))))))))))) : g71' N x1 x2 = F71 N x1 x2 := by
  refine (e71 N x1 x2).trans ?_
  simp only [F58_eq, F72_eq, F76_eq, F77_eq, F82_eq, F83_eq, F71]
def g43' (N : Nat)  : Option (Bool) := f43 N ()
theorem e43 (N : Nat)  : g43' N  =
  bindS (g44' N 1 Bool.true ([(20, 0, 0, Bool.false, 5, Bool.false, 0, Bool.false, 0, Bool.false, [0, 0, 0, 0, 0, 0, 0, 0]),
      (13, 0, 0, Bool.false, 0, Bool.true, 0, Bool.false, 0, Bool.false, [0, 0, 0, 0, 0, 0, 0, 0])])) (fun (y0 : Int) => bindS (g44' N 1 Bool.true ([(20, 0, 0, Bool.false, 5, Bool.true, 0, Bool.false, 0, Bool.false, [0, 0, 0, 0, 0, 0, 0, 0]),
      (13, 0, 0, Bool.false, 0, Bool.true, 0, Bool.false, 0, Bool.false, [0, 0, 0, 0, 0, 0, 0, 0])])) (fun (y1 : Int) => jp (fun (y2 : Bool) => some y2)
 (fun K3 => br (Decidable.decide (y0 = 0))
 (br (Decidable.decide (y1 = 4))
 (bindS (g69' N 1 3 ((([(20, 0, 0, Bool.false, 5, Bool.true, 0, Bool.true, 0, Bool.false, [0, 0, 0, 0, 0, 0, 0, 0]),
                  (13, 0, 0, Bool.false, 0, Bool.true, 0, Bool.false, 0, Bool.false, [0, 0, 0, 0, 0, 0, 0, 0]),
                  (13, 0, 0, Bool.false, 0, Bool.true, 0, Bool.false, 0, Bool.false, [0, 0, 0, 0, 0, 0, 0, 0])].set
              1 (13, 0, 0, Bool.false, 0, Bool.true, 0, Bool.false, 0, Bool.true, [0, 0, 0, 0, 0, 0, 0, 0])).set
          2 (13, 0, 0, Bool.false, 0, Bool.true, 0, Bool.false, 0, Bool.true, [0, 0, 0, 0, 0, 0, 0, 0])).set
      2 (13, 0, 0, Bool.false, 0, Bool.true, 0, Bool.false, 0, Bool.true, setD 0 [0, 0, 0, 0, 0, 0, 0, 0] 3 7))) (fun (y4 : Int) => br (Decidable.decide (y4 = 0))
 (bindS (g70' N 0 ((([(20, 0, 0, Bool.false, 5, Bool.true, 0, Bool.true, 0, Bool.false, [0, 0, 0, 0, 0, 0, 0, 0]),
                  (13, 0, 0, Bool.false, 0, Bool.true, 0, Bool.false, 0, Bool.false, [0, 0, 0, 0, 0, 0, 0, 0]),
                  (13, 0, 0, Bool.false, 0, Bool.true, 0, Bool.false, 0, Bool.false, [0, 0, 0, 0, 0, 0, 0, 0])].set
              1 (13, 0, 0, Bool.false, 0, Bool.true, 0, Bool.false, 0, Bool.true, [0, 0, 0, 0, 0, 0, 0, 0])).set
          2 (13, 0, 0, Bool.false, 0, Bool.true, 0, Bool.false, 0, Bool.true, [0, 0, 0, 0, 0, 0, 0, 0])).set
      2 (13, 0, 0, Bool.false, 0, Bool.true, 0, Bool.false, 0, Bool.true, setD 0 [0, 0, 0, 0, 0, 0, 0, 0] 3 7))) (fun (y5 : Int) => br (Decidable.decide (y5 = 1))
 (bindS (g71' N 1 ((([(20, 0, 0, Bool.false, 5, Bool.true, 0, Bool.true, 0, Bool.false, [0, 0, 0, 0, 0, 0, 0, 0]),
                  (13, 0, 0, Bool.false, 0, Bool.true, 0, Bool.false, 0, Bool.false, [0, 0, 0, 0, 0, 0, 0, 0]),
                  (13, 0, 0, Bool.false, 0, Bool.true, 0, Bool.false, 0, Bool.false, [0, 0, 0, 0, 0, 0, 0, 0])].set
              1 (13, 0, 0, Bool.false, 0, Bool.true, 0, Bool.false, 0, Bool.true, [0, 0, 0, 0, 0, 0, 0, 0])).set
          2 (13, 0, 0, Bool.false, 0, Bool.true, 0, Bool.false, 0, Bool.true, [0, 0, 0, 0, 0, 0, 0, 0])).set
      2 (13, 0, 0, Bool.false, 0, Bool.true, 0, Bool.false, 0, Bool.true, setD 0 [0, 0, 0, 0, 0, 0, 0, 0] 3 7))) (fun (y6 : Int) => br (Decidable.decide (y6 = 2))
 (bindS (g45' N 0 Bool.true ([(50, 1, 2, Bool.false, 0, Bool.false, 0, Bool.false, 0, Bool.false, [0, 0, 0, 0, 0, 0, 0, 0])])) (fun (y7 : Bool) => K3 y7))
 (K3 Bool.false)))
 (K3 Bool.false)))
 (K3 Bool.false)))
 (K3 Bool.false))
 (K3 Bool.false)))) := by kernel_rfl
def F43 (N : Nat)  : Option (Bool) :=
  bindS (F44 N 1 Bool.true ([(20, 0, 0, Bool.false, 5, Bool.false, 0, Bool.false, 0, Bool.false, [0, 0, 0, 0, 0, 0, 0, 0]),
      (13, 0, 0, Bool.false, 0, Bool.true, 0, Bool.false, 0, Bool.false, [0, 0, 0, 0, 0, 0, 0, 0])])) (fun (y0 : Int) => bindS (F44 N 1 Bool.true ([(20, 0, 0, Bool.false, 5, Bool.true, 0, Bool.false, 0, Bool.false, [0, 0, 0, 0, 0, 0, 0, 0]),
      (13, 0, 0, Bool.false, 0, Bool.true, 0, Bool.false, 0, Bool.false, [0, 0, 0, 0, 0, 0, 0, 0])])) (fun (y1 : Int) => jp (fun (y2 : Bool) => some y2)
 (fun K3 => br (Decidable.decide (y0 = 0))
 (br (Decidable.decide (y1 = 4))
 (bindS (F69 N 1 3 ((([(20, 0, 0, Bool.false, 5, Bool.true, 0, Bool.true, 0, Bool.false, [0, 0, 0, 0, 0, 0, 0, 0]),
                  (13, 0, 0, Bool.false, 0, Bool.true, 0, Bool.false, 0, Bool.false, [0, 0, 0, 0, 0, 0, 0, 0]),
                  (13, 0, 0, Bool.false, 0, Bool.true, 0, Bool.false, 0, Bool.false, [0, 0, 0, 0, 0, 0, 0, 0])].set
              1 (13, 0, 0, Bool.false, 0, Bool.true, 0, Bool.false, 0, Bool.true, [0, 0, 0, 0, 0, 0, 0, 0])).set
          2 (13, 0, 0, Bool.false, 0, Bool.true, 0, Bool.false, 0, Bool.true, [0, 0, 0, 0, 0, 0, 0, 0])).set
      2 (13, 0, 0, Bool.false, 0, Bool.true, 0, Bool.false, 0, Bool.true, setD 0 [0, 0, 0, 0, 0, 0, 0, 0] 3 7))) (fun (y4 : Int) => br (Decidable.decide (y4 = 0))
 (bindS (F70 N 0 ((([(20, 0, 0, Bool.false, 5, Bool.true, 0, Bool.true, 0, Bool.false, [0, 0, 0, 0, 0, 0, 0, 0]),
                  (13, 0, 0, Bool.false, 0, Bool.true, 0, Bool.false, 0, Bool.false, [0, 0, 0, 0, 0, 0, 0, 0]),
                  (13, 0, 0, Bool.false, 0, Bool.true, 0, Bool.false, 0, Bool.false, [0, 0, 0, 0, 0, 0, 0, 0])].set
              1 (13, 0, 0, Bool.false, 0, Bool.true, 0, Bool.false, 0, Bool.true, [0, 0, 0, 0, 0, 0, 0, 0])).set
          2 (13, 0, 0, Bool.false, 0, Bool.true, 0, Bool.false, 0, Bool.true, [0, 0, 0, 0, 0, 0, 0, 0])).set
      2 (13, 0, 0, Bool.false, 0, Bool.true, 0, Bool.false, 0, Bool.true, setD 0 [0, 0, 0, 0, 0, 0, 0, 0] 3 7))) (fun (y5 : Int) => br (Decidable.decide (y5 = 1))
 (bindS (F71 N 1 ((([(20, 0, 0, Bool.false, 5, Bool.true, 0, Bool.true, 0, Bool.false, [0, 0, 0, 0, 0, 0, 0, 0]),
                  (13, 0, 0, Bool.false, 0, Bool.true, 0, Bool.false, 0, Bool.false, [0, 0, 0, 0, 0, 0, 0, 0]),
                  (13, 0, 0, Bool.false, 0, Bool.true, 0, Bool.false, 0, Bool.false, [0, 0, 0, 0, 0, 0, 0, 0])].set
              1 (13, 0, 0, Bool.false, 0, Bool.true, 0, Bool.false, 0, Bool.true, [0, 0, 0, 0, 0, 0, 0, 0])).set
          2 (13, 0, 0, Bool.false, 0, Bool.true, 0, Bool.false, 0, Bool.true, [0, 0, 0, 0, 0, 0, 0, 0])).set
      2 (13, 0, 0, Bool.false, 0, Bool.true, 0, Bool.false, 0, Bool.true, setD 0 [0, 0, 0, 0, 0, 0, 0, 0] 3 7))) (fun (y6 : Int) => br (Decidable.decide (y6 = 2))
 (bindS (F45 N 0 Bool.true ([(50, 1, 2, Bool.false, 0, Bool.false, 0, Bool.false, 0, Bool.false, [0, 0, 0, 0, 0, 0, 0, 0])])) (fun (y7 : Bool) => K3 y7))
 (K3 Bool.false)))
 (K3 Bool.false)))
 (K3 Bool.false)))
 (K3 Bool.false))
 (K3 Bool.false))))
theorem F43_eq (N : Nat)  : g43' N  = F43 N  := by
  refine (e43 N ).trans ?_
  simp only [F44_eq, F45_eq, F69_eq, F70_eq, F71_eq, F43]
def g10' (N : Nat) (x1 : Int) (x2 : Bool) (x3 : List (Int × (Int × (Int × (Bool × (Int × (Bool × (Int × (Bool × (Int × (Bool × List Int))))))))))) : Option (Bool) := f10 N (x1, x2, x3)
theorem e10 (N : Nat) (x1 : Int) (x2 : Bool) (x3 : List (Int × (Int × (Int × (Bool × (Int × (Bool × (Int × (Bool × (Int × (Bool × List Int))))))))))) : g10' N x1 x2 x3 =
  bindS (g43' N ) (fun (y0 : Bool) => br (!y0)
 (some Bool.false)
 (br (Decidable.decide (40 < (↑x3.length : Int)))
 (bindS (g43' N ) (fun (y1 : Bool) => some y1))
 (br (Decidable.decide ((↑x3.length : Int) ≤ IntKind.i64.wrap x1))
 (bindS (g43' N ) (fun (y2 : Bool) => some y2))
 (jp (fun (y3 : Bool) => br y3
 (some Bool.false)
 (chk (Decidable.decide (x3.length * 144 ≤ lim)) (fixN N (fun again4 (y5 : Int × List (Int × Int × Int × Bool × Int × Bool × Int × Bool × Int × Bool × List Int)) => br (Decidable.decide (y5.1 < (↑y5.2.length : Int)))
 (chk (Decidable.decide (0 ≤ y5.1) && Decidable.decide (y5.1 < (↑y5.2.length : Int))) (again4 ((IntKind.i64.wrap (y5.1 + 1), y5.2.set y5.1.toNat
  ((y5.2.getD y5.1.toNat (0, 0, 0, Bool.false, 0, Bool.false, 0, Bool.false, 0, Bool.false, List.replicate 8 0)).1,
    (y5.2.getD y5.1.toNat (0, 0, 0, Bool.false, 0, Bool.false, 0, Bool.false, 0, Bool.false, List.replicate 8 0)).2.1,
    (y5.2.getD y5.1.toNat (0, 0, 0, Bool.false, 0, Bool.false, 0, Bool.false, 0, Bool.false, List.replicate 8 0)).2.2.1,
    (y5.2.getD y5.1.toNat
              (0, 0, 0, Bool.false, 0, Bool.false, 0, Bool.false, 0, Bool.false, List.replicate 8 0)).2.2.2.1,
    (y5.2.getD y5.1.toNat
                (0, 0, 0, Bool.false, 0, Bool.false, 0, Bool.false, 0, Bool.false, List.replicate 8 0)).2.2.2.2.1,
    (y5.2.getD y5.1.toNat
                  (0, 0, 0, Bool.false, 0, Bool.false, 0, Bool.false, 0, Bool.false, List.replicate 8 0)).2.2.2.2.2.1,
    (y5.2.getD y5.1.toNat
                    (0, 0, 0, Bool.false, 0, Bool.false, 0, Bool.false, 0, Bool.false,
                      List.replicate 8 0)).2.2.2.2.2.2.1,
    (y5.2.getD y5.1.toNat
                      (0, 0, 0, Bool.false, 0, Bool.false, 0, Bool.false, 0, Bool.false,
                        List.replicate 8 0)).2.2.2.2.2.2.2.1,
    (y5.2.getD y5.1.toNat
                        (0, 0, 0, Bool.false, 0, Bool.false, 0, Bool.false, 0, Bool.false,
                          List.replicate 8 0)).2.2.2.2.2.2.2.2.1,
    Bool.true,
    (y5.2.getD y5.1.toNat
                          (0, 0, 0, Bool.false, 0, Bool.false, 0, Bool.false, 0, Bool.false,
                            List.replicate 8 0)).2.2.2.2.2.2.2.2.2.2)))))
 (jp (fun (y6 : Bool) => some y6)
 (fun K7 => bindS (g43' N ) (fun (y8 : Bool) => br y8
 (bindS (g45' N (IntKind.i64.wrap x1) x2 x3) (fun (y9 : Bool) => br (!y9)
 (K7 Bool.true)
 (bindS (g45' N (IntKind.i64.wrap x1) x2 y5.2) (fun (y10 : Bool) => br y10
 (bindS (g45' N (IntKind.i64.wrap x1) Bool.true x3) (fun (y11 : Bool) => K7 y11))
 (K7 Bool.false)))))
 (K7 Bool.false)))))
 ((0, x3)))))
 (fun K12 => chk (Decidable.decide (0 ≤ IntKind.i64.wrap (IntKind.i64.wrap x1 + 1)) &&
    Nat.ble 0 (IntKind.i64.wrap (IntKind.i64.wrap x1 + 1)).toNat &&
  (IntKind.i64.wrap (IntKind.i64.wrap x1 + 1)).toNat.ble x3.length) (bindS (g44' N (IntKind.i64.wrap x1) x2 (List.take ((IntKind.i64.wrap (IntKind.i64.wrap x1 + 1)).toNat - 0) (List.drop (0 + 0) x3))) (fun (y13 : Int) => bindS (g44' N (IntKind.i64.wrap x1) x2 x3) (fun (y14 : Int) => br (!Decidable.decide (y13 = y14))
 (K12 Bool.true)
 (chk (Decidable.decide (0 ≤ IntKind.i64.wrap (IntKind.i64.wrap x1 + 1)) &&
    Nat.ble 0 (IntKind.i64.wrap (IntKind.i64.wrap x1 + 1)).toNat &&
  (IntKind.i64.wrap (IntKind.i64.wrap x1 + 1)).toNat.ble x3.length) (bindS (g45' N (IntKind.i64.wrap x1) x2 (List.take ((IntKind.i64.wrap (IntKind.i64.wrap x1 + 1)).toNat - 0) (List.drop (0 + 0) x3))) (fun (y15 : Bool) => bindS (g45' N (IntKind.i64.wrap x1) x2 x3) (fun (y16 : Bool) => K12 (!y15 == y16))))))))))))) := by kernel_rfl
def F10 (N : Nat) (x1 : Int) (x2 : Bool) (x3 : List (Int × (Int × (Int × (Bool × (Int × (Bool × (Int × (Bool × (Int × (Bool × List Int))))))))))) : Option (Bool) :=
  bindS (F43 N ) (fun (y0 : Bool) => br (!y0)
 (some Bool.false)
 (br (Decidable.decide (40 < (↑x3.length : Int)))
 (bindS (F43 N ) (fun (y1 : Bool) => some y1))
 (br (Decidable.decide ((↑x3.length : Int) ≤ IntKind.i64.wrap x1))
 (bindS (F43 N ) (fun (y2 : Bool) => some y2))
 (jp (fun (y3 : Bool) => br y3
 (some Bool.false)
 (chk (Decidable.decide (x3.length * 144 ≤ lim)) (fixN N (fun again4 (y5 : Int × List (Int × Int × Int × Bool × Int × Bool × Int × Bool × Int × Bool × List Int)) => br (Decidable.decide (y5.1 < (↑y5.2.length : Int)))
 (chk (Decidable.decide (0 ≤ y5.1) && Decidable.decide (y5.1 < (↑y5.2.length : Int))) (again4 ((IntKind.i64.wrap (y5.1 + 1), y5.2.set y5.1.toNat
  ((y5.2.getD y5.1.toNat (0, 0, 0, Bool.false, 0, Bool.false, 0, Bool.false, 0, Bool.false, List.replicate 8 0)).1,
    (y5.2.getD y5.1.toNat (0, 0, 0, Bool.false, 0, Bool.false, 0, Bool.false, 0, Bool.false, List.replicate 8 0)).2.1,
    (y5.2.getD y5.1.toNat (0, 0, 0, Bool.false, 0, Bool.false, 0, Bool.false, 0, Bool.false, List.replicate 8 0)).2.2.1,
    (y5.2.getD y5.1.toNat
              (0, 0, 0, Bool.false, 0, Bool.false, 0, Bool.false, 0, Bool.false, List.replicate 8 0)).2.2.2.1,
    (y5.2.getD y5.1.toNat
                (0, 0, 0, Bool.false, 0, Bool.false, 0, Bool.false, 0, Bool.false, List.replicate 8 0)).2.2.2.2.1,
    (y5.2.getD y5.1.toNat
                  (0, 0, 0, Bool.false, 0, Bool.false, 0, Bool.false, 0, Bool.false, List.replicate 8 0)).2.2.2.2.2.1,
    (y5.2.getD y5.1.toNat
                    (0, 0, 0, Bool.false, 0, Bool.false, 0, Bool.false, 0, Bool.false,
                      List.replicate 8 0)).2.2.2.2.2.2.1,
    (y5.2.getD y5.1.toNat
                      (0, 0, 0, Bool.false, 0, Bool.false, 0, Bool.false, 0, Bool.false,
                        List.replicate 8 0)).2.2.2.2.2.2.2.1,
    (y5.2.getD y5.1.toNat
                        (0, 0, 0, Bool.false, 0, Bool.false, 0, Bool.false, 0, Bool.false,
                          List.replicate 8 0)).2.2.2.2.2.2.2.2.1,
    Bool.true,
    (y5.2.getD y5.1.toNat
                          (0, 0, 0, Bool.false, 0, Bool.false, 0, Bool.false, 0, Bool.false,
                            List.replicate 8 0)).2.2.2.2.2.2.2.2.2.2)))))
 (jp (fun (y6 : Bool) => some y6)
 (fun K7 => bindS (F43 N ) (fun (y8 : Bool) => br y8
 (bindS (F45 N (IntKind.i64.wrap x1) x2 x3) (fun (y9 : Bool) => br (!y9)
 (K7 Bool.true)
 (bindS (F45 N (IntKind.i64.wrap x1) x2 y5.2) (fun (y10 : Bool) => br y10
 (bindS (F45 N (IntKind.i64.wrap x1) Bool.true x3) (fun (y11 : Bool) => K7 y11))
 (K7 Bool.false)))))
 (K7 Bool.false)))))
 ((0, x3)))))
 (fun K12 => chk (Decidable.decide (0 ≤ IntKind.i64.wrap (IntKind.i64.wrap x1 + 1)) &&
    Nat.ble 0 (IntKind.i64.wrap (IntKind.i64.wrap x1 + 1)).toNat &&
  (IntKind.i64.wrap (IntKind.i64.wrap x1 + 1)).toNat.ble x3.length) (bindS (F44 N (IntKind.i64.wrap x1) x2 (List.take ((IntKind.i64.wrap (IntKind.i64.wrap x1 + 1)).toNat - 0) (List.drop (0 + 0) x3))) (fun (y13 : Int) => bindS (F44 N (IntKind.i64.wrap x1) x2 x3) (fun (y14 : Int) => br (!Decidable.decide (y13 = y14))
 (K12 Bool.true)
 (chk (Decidable.decide (0 ≤ IntKind.i64.wrap (IntKind.i64.wrap x1 + 1)) &&
    Nat.ble 0 (IntKind.i64.wrap (IntKind.i64.wrap x1 + 1)).toNat &&
  (IntKind.i64.wrap (IntKind.i64.wrap x1 + 1)).toNat.ble x3.length) (bindS (F45 N (IntKind.i64.wrap x1) x2 (List.take ((IntKind.i64.wrap (IntKind.i64.wrap x1 + 1)).toNat - 0) (List.drop (0 + 0) x3))) (fun (y15 : Bool) => bindS (F45 N (IntKind.i64.wrap x1) x2 x3) (fun (y16 : Bool) => K12 (!y15 == y16)))))))))))))
theorem F10_eq (N : Nat) (x1 : Int) (x2 : Bool) (x3 : List (Int × (Int × (Int × (Bool × (Int × (Bool × (Int × (Bool × (Int × (Bool × List Int))))))))))) : g10' N x1 x2 x3 = F10 N x1 x2 x3 := by
  refine (e10 N x1 x2 x3).trans ?_
  simp only [F43_eq, F44_eq, F45_eq, F10]
end Go.Proofs.Ytipdancojcdioaa
