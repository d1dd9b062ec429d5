/- What the contracts' functions come to, as printed. No condition. -/
import Derived.Test.YtkcfkegkhopakaaDoorConSh
import Derived.KernelRfl
namespace Go.Proofs.YtkcfkegkhopakaaDoor
open Go Go.Ev Go.Sh
set_option maxRecDepth 100000
set_option linter.unusedVariables false
open Go.IntKind (i8 i16 i32 i64 u8 u16 u32 u64)
abbrev P0Sh := Int × Int × Int
abbrev P1Sh := Bool × Int × Int
abbrev P2Sh := List (List UInt8)
abbrev P3Sh := (List UInt8) × Int
abbrev P4Sh := (List UInt8) × Bool
abbrev P5Sh := Int × Bool × P1Sh
abbrev P6Sh := (List UInt8) × P4Sh
abbrev P7Sh := Int × Int × P5Sh
abbrev P8Sh := Int × Int × P7Sh
noncomputable section
def g5' (N : Nat) : Option Bool := f5 N ()
def F5 (N : Nat) : Option Bool := some true
theorem F5_eq : g5' = F5 := rfl
def g13' (N : Nat) (x1 : List UInt8) (x2 : Int) (x3 : Int) : Option (Int × Bool) := f13 N (x1, x2, x3)
def F13 (N : Nat) (x1 : List UInt8) (x2 : Int) (x3 : Int) : Option (Int × Bool) := pintS N (x1, x2, x3)
theorem F13_eq : g13' = F13 := rfl
def g14' (N : Nat) (x1 : Int) (x2 : Int) : Option (List UInt8) := f14 N (x1, x2)
def F14 (N : Nat) (x1 : Int) (x2 : Int) : Option (List UInt8) := fintS N (x1, x2)
theorem F14_eq : g14' = F14 := rfl
def g6' (N : Nat) (x1 : List UInt8) : Option (Int × Bool) := f6 N (x1)
def R6 (F13 : Nat → (List UInt8) → Int → Int → Option (Int × Bool)) (F14 : Nat → Int → Int → Option (List UInt8)) (N : Nat) (x1 : List UInt8) : Option (Int × Bool) :=
  bindS (F13 N x1 10 64) (fun (y0 : Int × Bool) => jp (fun (y1 : Bool) => br y1
 (some ((0, false)))
 (some ((y0.1, true))))
 (fun K2 => br y0.2
 (K2 true)
 (bindS (F14 N y0.1 10) (fun (y3 : List UInt8) => K2 (!y3 == x1)))))
theorem e6 : g6' = R6 g13' g14' := by kernel_rfl
def F6 : Nat → (List UInt8) → Option (Int × Bool) := R6 F13 F14
theorem F6_eq : g6' = F6 := by
  rw [e6, F13_eq, F14_eq, F6]
def g7' (N : Nat) (x1 : List UInt8) : Option (Int × Bool) := f7 N (x1)
def F7 (N : Nat) (x1 : List UInt8) : Option (Int × Bool) :=
  jp (fun (y0 : P4Sh) => jp (fun (y1 : Bool) => br y1
 (some ((0, false)))
 (fixN N (fun again2 (y3 : Int × Int) => br (decide (y3.2 < (↑y0.1.length : Int)))
 (jp (fun (y4 : Bool) => br y4
 (some ((0, false)))
 (chk (decide (0 ≤ y3.2) && decide (y3.2 < (↑y0.1.length : Int))) (again2 ((u64.wrap (u64.wrap (10 * y3.1) + u64.wrap (u8.wrap ((↑(y0.1.getD y3.2.toNat 0).toNat : Int) - 48))), i64.wrap (y3.2 + 1))))))
 (fun K5 => chk (decide (0 ≤ y3.2) && decide (y3.2 < (↑y0.1.length : Int))) (br (decide ((↑(y0.1.getD y3.2.toNat 0).toNat : Int) < 48))
 (K5 true)
 (chk (decide (0 ≤ y3.2) && decide (y3.2 < (↑y0.1.length : Int))) (K5 (decide (57 < (↑(y0.1.getD y3.2.toNat 0).toNat : Int))))))))
 (jp (fun (y6 : Bool) => br y6
 (some ((0, false)))
 (br y0.2
 (some ((i64.wrap (u64.wrap (0 - y3.1)), true)))
 (some ((i64.wrap y3.1, true)))))
 (fun K7 => br (decide (9223372036854775808 < y3.1))
 (K7 true)
 (br (decide (y3.1 = 9223372036854775808))
 (K7 (!y0.2))
 (K7 false)))))
 ((0, 0))))
 (fun K8 => br (decide ((↑y0.1.length : Int) = 0))
 (K8 true)
 (br (decide (19 < (↑y0.1.length : Int)))
 (K8 true)
 (chk (decide (0 < (↑y0.1.length : Int))) (br (decide ((↑(y0.1.getD (0) 0).toNat : Int) = 48))
 (br (decide (1 < (↑y0.1.length : Int)))
 (K8 true)
 (K8 y0.2))
 (K8 false))))))
 (fun K9 => jp (fun (y10 : Bool) => br y10
 (chk (Nat.ble (1) x1.length && x1.length.ble x1.length) (K9 ((List.take (x1.length - 1) (List.drop (1) x1), true))))
 (K9 ((x1, false))))
 (fun K11 => br (decide (0 < (↑x1.length : Int)))
 (chk (decide (0 < (↑x1.length : Int))) (K11 (decide ((↑(x1.getD (0) 0).toNat : Int) = 45))))
 (K11 false)))
theorem F7_eq : g7' = F7 := by kernel_rfl
def g45' (N : Nat) (x1 : List UInt8) (x2 : List UInt8) : Option Bool := f45 N (x1, x2)
def F45 (N : Nat) (x1 : List UInt8) (x2 : List UInt8) : Option Bool :=
  jp (fun (y0 : Bool) => some y0)
 (fun K1 => br (decide ((↑x2.length : Int) ≤ (↑x1.length : Int)))
 (chk ((↑x2.length : Int).toNat.ble x1.length) (K1 (List.take ((↑x2.length : Int).toNat - 0) (List.drop 0 x1) == x2)))
 (K1 false))
theorem F45_eq : g45' = F45 := by kernel_rfl
def g22' (N : Nat) (x1 : List UInt8) (x2 : List UInt8) : Option (P4Sh) := f22 N (x1, x2)
def R22 (F45 : Nat → (List UInt8) → (List UInt8) → Option Bool) (N : Nat) (x1 : List UInt8) (x2 : List UInt8) : Option (P4Sh) :=
  bindS (F45 N x1 x2) (fun (y0 : Bool) => br (!y0)
 (some ((x1, false)))
 (chk ((↑x2.length : Int).toNat.ble x1.length && x1.length.ble x1.length) (some ((List.take (x1.length - (↑x2.length : Int).toNat) (List.drop (↑x2.length : Int).toNat x1), true)))))
theorem e22 : g22' = R22 g45' := by kernel_rfl
def F22 : Nat → (List UInt8) → (List UInt8) → Option (P4Sh) := R22 F45
theorem F22_eq : g22' = F22 := by
  rw [e22, F45_eq, F22]
def g15' (N : Nat) (x1 : List UInt8) (x2 : List UInt8) : Option (P4Sh) := f15 N (x1, x2)
def R15 (F22 : Nat → (List UInt8) → (List UInt8) → Option (P4Sh)) (N : Nat) (x1 : List UInt8) (x2 : List UInt8) : Option (P4Sh) :=
  bindS (F22 N x1 x2) (fun (y0 : P4Sh) => some ((y0.1, y0.2)))
theorem e15 : g15' = R15 g22' := by kernel_rfl
def F15 : Nat → (List UInt8) → (List UInt8) → Option (P4Sh) := R15 F22
theorem F15_eq : g15' = F15 := by
  rw [e15, F22_eq, F15]
def g8' (N : Nat) (x1 : List UInt8) : Option (Int × Bool) := f8 N (x1)
def R8 (F15 : Nat → (List UInt8) → (List UInt8) → Option (P4Sh)) (F6 : Nat → (List UInt8) → Option (Int × Bool)) (N : Nat) (x1 : List UInt8) : Option (Int × Bool) :=
  bindS (F15 N x1 (([120] : List UInt8))) (fun (y0 : P4Sh) => bindS (F6 N y0.1) (fun (y1 : Int × Bool) => jp (fun (y2 : Bool) => br y2
 (some ((0, false)))
 (some ((y1.1, true))))
 (fun K3 => br (!y0.2)
 (K3 true)
 (br (!y1.2)
 (K3 true)
 (br (decide (y1.1 < 0))
 (K3 true)
 (K3 (decide (31 < y1.1))))))))
theorem e8 : g8' = R8 g15' g6' := by kernel_rfl
def F8 : Nat → (List UInt8) → Option (Int × Bool) := R8 F15 F6
theorem F8_eq : g8' = F8 := by
  rw [e8, F15_eq, F6_eq, F8]
def g9' (N : Nat) (x1 : List UInt8) : Option (Int × Bool) := f9 N (x1)
def R9 (F7 : Nat → (List UInt8) → Option (Int × Bool)) (N : Nat) (x1 : List UInt8) : Option (Int × Bool) :=
  jp (fun (y0 : Bool) => br y0
 (some ((0, false)))
 (chk (Nat.ble (1) x1.length && x1.length.ble x1.length) (bindS (F7 N ((List.take (x1.length - 1) (List.drop (1) x1)))) (fun (y1 : Int × Bool) => jp (fun (y2 : Bool) => br y2
 (some ((0, false)))
 (some ((y1.1, true))))
 (fun K3 => br (!y1.2)
 (K3 true)
 (br (decide (y1.1 < 0))
 (K3 true)
 (K3 (decide (31 < y1.1)))))))))
 (fun K4 => br (decide ((↑x1.length : Int) < 2))
 (K4 true)
 (br (decide (3 < (↑x1.length : Int)))
 (K4 true)
 (chk (decide (0 < (↑x1.length : Int))) (K4 (!decide ((↑(x1.getD (0) 0).toNat : Int) = 120))))))
theorem e9 : g9' = R9 g7' := by kernel_rfl
def F9 : Nat → (List UInt8) → Option (Int × Bool) := R9 F7
theorem F9_eq : g9' = F9 := by
  rw [e9, F7_eq, F9]
def g10' (N : Nat) (x1 : Int) : Option (List UInt8) := f10 N (x1)
def F10 (N : Nat) (x1 : Int) : Option (List UInt8) :=
  jp (fun (y0 : Int) => fixN N (fun again1 (y2 : P3Sh) => chk (decide ((List.map (fun n => UInt8.ofNat n.toNat) [u8.wrap (u64.wrap (48 + y2.2.tmod 10))]).length + y2.1.length ≤ 9223372036854775807)) (br (decide (u64.wrap (y2.2.tdiv 10) = 0))
 (jp (fun (y3 : List UInt8) => some y3)
 (fun K4 => br (decide (x1 < 0))
 (chk (decide (([45] : List UInt8).length + (List.map (fun n => UInt8.ofNat n.toNat) [u8.wrap (u64.wrap (48 + y2.2.tmod 10))] ++ y2.1).length ≤ 9223372036854775807)) (K4 (([45] : List UInt8) ++ (List.map (fun n => UInt8.ofNat n.toNat) [u8.wrap (u64.wrap (48 + y2.2.tmod 10))] ++ y2.1))))
 (K4 (List.map (fun n => UInt8.ofNat n.toNat) [u8.wrap (u64.wrap (48 + y2.2.tmod 10))] ++ y2.1))))
 (again1 ((List.map (fun n => UInt8.ofNat n.toNat) [u8.wrap (u64.wrap (48 + y2.2.tmod 10))] ++ y2.1, u64.wrap (y2.2.tdiv 10))))))
 (([], y0)))
 (fun K5 => br (decide (x1 < 0))
 (K5 (u64.wrap (0 - u64.wrap x1)))
 (K5 (u64.wrap x1)))
theorem F10_eq : g10' = F10 := by kernel_rfl
def g3' (N : Nat) (x1 : List UInt8) (x2 : Int) : Option Bool := f3 N (x1, x2)
def R3 (F10 : Nat → Int → Option (List UInt8)) (F5 : Nat → Option Bool) (F6 : Nat → (List UInt8) → Option (Int × Bool)) (F7 : Nat → (List UInt8) → Option (Int × Bool)) (F8 : Nat → (List UInt8) → Option (Int × Bool)) (F9 : Nat → (List UInt8) → Option (Int × Bool)) (N : Nat) (x1 : List UInt8) (x2 : Int) : Option Bool :=
  bindS (F5 N ) (fun (y0 : Bool) => br (!y0)
 (some false)
 (br (decide (200 < (↑x1.length : Int)))
 (bindS (F5 N ) (fun (y1 : Bool) => some y1))
 (bindS (F6 N x1) (fun (y2 : Int × Bool) => bindS (F7 N x1) (fun (y3 : Int × Bool) => bindS (F8 N x1) (fun (y4 : Int × Bool) => bindS (F9 N x1) (fun (y5 : Int × Bool) => bindS (F10 N x2) (fun (y6 : List UInt8) => bindS (F6 N y6) (fun (y7 : Int × Bool) => jp (fun (y8 : Bool) => some y8)
 (fun K9 => bindS (F5 N ) (fun (y10 : Bool) => br y10
 (br (decide (y2.1 = y3.1))
 (br (y2.2 == y3.2)
 (br (decide (y4.1 = y5.1))
 (br (y4.2 == y5.2)
 (br (decide (y7.1 = x2))
 (K9 y7.2)
 (K9 false))
 (K9 false))
 (K9 false))
 (K9 false))
 (K9 false))
 (K9 false))))))))))))
theorem e3 : g3' = R3 g10' g5' g6' g7' g8' g9' := by kernel_rfl
def F3 : Nat → (List UInt8) → Int → Option Bool := R3 F10 F5 F6 F7 F8 F9
theorem F3_eq : g3' = F3 := by
  rw [e3, F10_eq, F5_eq, F6_eq, F7_eq, F8_eq, F9_eq, F3]
def g46' (N : Nat) (x1 : Int) : Option Int := f46 N (x1)
def F46 (N : Nat) (x1 : Int) : Option Int :=
  jp (fun (y0 : Bool) => br y0
 (some (6))
 (jp (fun (y1 : Bool) => br y1
 (some (5))
 (some (0)))
 (fun K2 => br (decide (x1 = 32))
 (K2 true)
 (br (decide (x1 = 33))
 (K2 true)
 (K2 (decide (x1 = 34)))))))
 (fun K3 => br (decide (x1 = 28))
 (K3 true)
 (br (decide (x1 = 29))
 (K3 true)
 (K3 (decide (x1 = 30)))))
theorem F46_eq : g46' = F46 := by kernel_rfl
def g24' (N : Nat) (x1 : Int) : Option Int := f24 N (x1)
def F24 (N : Nat) (x1 : Int) : Option Int :=
  jp (fun (y0 : Bool) => br y0
 (some (0))
 (br (decide (x1 ≤ 2))
 (some (1))
 (br (decide (x1 ≤ 4))
 (some (2))
 (br (decide (x1 ≤ 10))
 (some (3))
 (br (decide (x1 ≤ 17))
 (some (4))
 (br (decide (x1 ≤ 21))
 (some (5))
 (br (decide (x1 ≤ 34))
 (some (6))
 (br (decide (x1 ≤ 49))
 (some (7))
 (br (decide (x1 ≤ 51))
 (some (8))
 (br (decide (x1 ≤ 53))
 (some (9))
 (br (decide (x1 ≤ 55))
 (some (10))
 (br (decide (x1 ≤ 57))
 (some (11))
 (some (12))))))))))))))
 (fun K1 => br (decide (x1 < 1))
 (K1 true)
 (K1 (decide (75 < x1))))
theorem F24_eq : g24' = F24 := by kernel_rfl
def g47' (N : Nat) (x1 : Int) : Option Int := f47 N (x1)
def R47 (F24 : Nat → Int → Option Int) (F46 : Nat → Int → Option Int) (N : Nat) (x1 : Int) : Option Int :=
  bindS (F24 N x1) (fun (y0 : Int) => jp (fun (y1 : PUnit) => some (0))
 (fun K2 => br (decide (y0 = 1))
 (some (4))
 (br (decide (y0 = 3))
 (some (3))
 (br (decide (y0 = 5))
 (some (2))
 (br (decide (y0 = 2))
 (br (decide (x1 = 3))
 (some (5))
 (some (1)))
 (br (decide (y0 = 4))
 (some (1))
 (br (decide (y0 = 6))
 (bindS (F46 N x1) (fun (y3 : Int) => br (decide (y3 = 0))
 (some (1))
 (K2 ())))
 (K2 ()))))))))
theorem e47 : g47' = R47 g24' g46' := by kernel_rfl
def F47 : Nat → Int → Option Int := R47 F24 F46
theorem F47_eq : g47' = F47 := by
  rw [e47, F24_eq, F46_eq, F47]
def g87' (N : Nat)  : Option (Int × Int × Int × Int × Int × Int × Int × Int × Int × Int × Int × Int × (List P0Sh) × (List P0Sh) × (List P0Sh) × (List P0Sh) × List P0Sh) := f87 N ()
def F87 (N : Nat)  : Option (Int × Int × Int × Int × Int × Int × Int × Int × Int × Int × Int × Int × (List P0Sh) × (List P0Sh) × (List P0Sh) × (List P0Sh) × List P0Sh) :=
  some ((0, (0, (12, (0, (12, (0, (13, (1, (32, (12, (21, (1, ([(31, 20, 0)], ([(31, 25, 5), (11, 7, 0)], ([(31, 31, 12), (7, 7, 11), (30, 25, 5), (11, 8, 1)], ([(31, 12, 12)], [(31, 31, 20), (19, 12, 12), (20, 20, 11), (30, 21, 1)])))))))))))))))))
theorem F87_eq : g87' = F87 := by kernel_rfl
def g73' (N : Nat) (x1 : Int) : Option (Int × Int × Bool × List P0Sh) := f73 N (x1)
def R73 (F87 : Nat → Option (Int × Int × Int × Int × Int × Int × Int × Int × Int × Int × Int × Int × (List P0Sh) × (List P0Sh) × (List P0Sh) × (List P0Sh) × List P0Sh)) (N : Nat) (x1 : Int) : Option (Int × Int × Bool × List P0Sh) :=
  jp (fun (y0 : Bool) => br y0
 (some ((0, (0, (false, [])))))
 (jp (fun (y1 : Bool × Int × Int × List P0Sh) => some ((y1.2.1, (y1.2.2.1, (y1.1, y1.2.2.2)))))
 (fun K2 => bindS (F87 N ) (fun (y3 : Int × Int × Int × Int × Int × Int × Int × Int × Int × Int × Int × Int × (List P0Sh) × (List P0Sh) × (List P0Sh) × (List P0Sh) × List P0Sh) => chk (decide (0 ≤ x1) && decide (x1 < (↑6 : Int))) (br (x1.toNat.beq 0)
 (K2 ((true, (y3.1, (y3.2.1, [])))))
 (br (x1.toNat.beq (0 + 1))
 (K2 ((true, (y3.2.2.1, (y3.2.2.2.1, y3.2.2.2.2.2.2.2.2.2.2.2.2.1)))))
 (br (x1.toNat.beq (0 + 1 + 1))
 (K2 ((true, (y3.2.2.2.2.1, (y3.2.2.2.2.2.1, y3.2.2.2.2.2.2.2.2.2.2.2.2.2.1)))))
 (br (x1.toNat.beq (0 + 1 + 1 + 1))
 (K2 ((true, (y3.2.2.2.2.2.2.1, (y3.2.2.2.2.2.2.2.1, y3.2.2.2.2.2.2.2.2.2.2.2.2.2.2.1)))))
 (br (x1.toNat.beq (0 + 1 + 1 + 1 + 1))
 (K2 ((true, (y3.2.2.2.2.2.2.2.2.1, (y3.2.2.2.2.2.2.2.2.2.1, y3.2.2.2.2.2.2.2.2.2.2.2.2.2.2.2.1)))))
 (K2 ((true, (y3.2.2.2.2.2.2.2.2.2.2.1, (y3.2.2.2.2.2.2.2.2.2.2.2.1, y3.2.2.2.2.2.2.2.2.2.2.2.2.2.2.2.2))))))))))))))
 (fun K4 => br (decide (x1 < 1))
 (K4 true)
 (K4 (decide (5 < x1))))
theorem e73 : g73' = R73 g87' := by kernel_rfl
def F73 : Nat → Int → Option (Int × Int × Bool × List P0Sh) := R73 F87
theorem F73_eq : g73' = F73 := by
  rw [e73, F87_eq, F73]
def g75' (N : Nat) (x1 : Int) (x2 : Int) : Option Int := f75 N (x1, x2)
def F75 (N : Nat) (x1 : Int) (x2 : Int) : Option Int :=
  br (decide (x2 < 1))
 (some (0))
 (br (decide (64 ≤ x2))
 (some x1)
 (chk (decide (0 ≤ x2)) (some (bits BinOp.and u64 x1 (u64.wrap (u64.wrap (1 * 2 ^ Min.min x2.toNat u64.bits) - 1))))))
theorem F75_eq : g75' = F75 := by kernel_rfl
def g74' (N : Nat) (x1 : Int) (x2 : Int) : Option Int := f74 N (x1, x2)
def R74 (F75 : Nat → Int → Int → Option Int) (N : Nat) (x1 : Int) (x2 : Int) : Option Int :=
  jp (fun (y0 : Bool) => br y0
 (bindS (F75 N x1 x2) (fun (y1 : Int) => some y1))
 (chk (decide (0 ≤ i64.wrap (64 - x2))) (chk (decide (0 ≤ i64.wrap (64 - x2))) (some (u64.wrap ((i64.wrap (u64.wrap (x1 * 2 ^ Min.min (i64.wrap (64 - x2)).toNat u64.bits))).fdiv (2 ^ Min.min (i64.wrap (64 - x2)).toNat i64.bits)))))))
 (fun K2 => br (decide (x2 < 1))
 (K2 true)
 (K2 (decide (64 ≤ x2))))
theorem e74 : g74' = R74 g75' := by kernel_rfl
def F74 : Nat → Int → Int → Option Int := R74 F75
theorem F74_eq : g74' = F74 := by
  rw [e74, F75_eq, F74]
def g48' (N : Nat) (x1 : Int) (x2 : Int) : Option (Int × Bool) := f48 N (x1, x2)
def R48 (F73 : Nat → Int → Option (Int × Int × Bool × List P0Sh)) (F74 : Nat → Int → Int → Option Int) (F75 : Nat → Int → Int → Option Int) (N : Nat) (x1 : Int) (x2 : Int) : Option (Int × Bool) :=
  bindS (F73 N x1) (fun (y0 : Int × Int × Bool × List P0Sh) => jp (fun (y1 : Bool) => br y1
 (some ((0, false)))
 (fixN N (fun again2 (y3 : Int × Int) => br (decide (y3.2 < (↑y0.2.2.2.length : Int)))
 (chk (decide (0 ≤ y3.2) && decide (y3.2 < (↑y0.2.2.2.length : Int))) (chk (decide (0 ≤ (y0.2.2.2.getD y3.2.toNat (0, 0, 0)).2.2)) (bindS (F75 N ((u64.wrap x2).fdiv (2 ^ Min.min (Int.toNat (y0.2.2.2.getD y3.2.toNat (0, 0, 0)).2.2) u64.bits)) (i64.wrap (i64.wrap ((y0.2.2.2.getD y3.2.toNat (0, 0, 0)).1 - (y0.2.2.2.getD y3.2.toNat (0, 0, 0)).2.1) + 1))) (fun (y4 : Int) => chk (decide (0 ≤ (y0.2.2.2.getD y3.2.toNat (0, 0, 0)).2.1)) (again2 ((bits BinOp.or u32 y3.1 (u32.wrap (u32.wrap y4 * 2 ^ Min.min (Int.toNat (y0.2.2.2.getD y3.2.toNat (0, 0, 0)).2.1) u32.bits)), i64.wrap (y3.2 + 1))))))))
 (some ((y3.1, true))))
 ((0, 0))))
 (fun K5 => br (!y0.2.2.1)
 (K5 true)
 (bindS (F74 N (u64.wrap x2) y0.1) (fun (y6 : Int) => br (!decide (y6 = u64.wrap x2))
 (K5 true)
 (bindS (F75 N (u64.wrap x2) y0.2.1) (fun (y7 : Int) => K5 (!decide (y7 = 0))))))))
theorem e48 : g48' = R48 g73' g74' g75' := by kernel_rfl
def F48 : Nat → Int → Int → Option (Int × Bool) := R48 F73 F74 F75
theorem F48_eq : g48' = F48 := by
  rw [e48, F73_eq, F74_eq, F75_eq, F48]
def g23' (N : Nat) (x1 : P8Sh) : Option (Int × Bool) := f23 N (x1)
def R23 (F46 : Nat → Int → Option Int) (F47 : Nat → Int → Option Int) (F48 : Nat → Int → Int → Option (Int × Bool)) (N : Nat) (x1 : P8Sh) : Option (Int × Bool) :=
  bindS (F46 N x1.1) (fun (y0 : Int) => br (decide (0 < y0))
 (jp (fun (y1 : Int × Bool) => some ((y1.1, y1.2)))
 (fun K2 => br (decide (0 ≤ x1.2.2.2.2.1))
 (chk (decide (0 ≤ y0)) (K2 ((u32.wrap (u32.wrap x1.2.2.2.2.1 * 2 ^ Min.min (20) u32.bits), decide (x1.2.2.2.2.1 < i64.wrap (1 * 2 ^ Min.min y0.toNat i64.bits))))))
 (K2 ((u32.wrap (u32.wrap x1.2.2.2.2.1 * 2 ^ Min.min (20) u32.bits), false)))))
 (bindS (F47 N x1.1) (fun (y3 : Int) => br (decide (0 < y3))
 (bindS (F48 N y3 x1.2.2.2.2.1) (fun (y4 : Int × Bool) => some ((y4.1, y4.2))))
 (some ((0, decide (x1.2.2.2.2.1 = 0)))))))
theorem e23 : g23' = R23 g46' g47' g48' := by kernel_rfl
def F23 : Nat → P8Sh → Option (Int × Bool) := R23 F46 F47 F48
theorem F23_eq : g23' = F23 := by
  rw [e23, F46_eq, F47_eq, F48_eq, F23]
def g76' (N : Nat) (x1 : Int) : Option Int := f76 N (x1)
def F76 (N : Nat) (x1 : Int) : Option Int :=
  jp (fun (y0 : Bool) => br y0
 (some (0))
 (some x1))
 (fun K1 => br (decide (x1 < 0))
 (K1 true)
 (K1 (decide (31 < x1))))
theorem F76_eq : g76' = F76 := by kernel_rfl
def g49' (N : Nat) (x1 : P8Sh) : Option Int := f49 N (x1)
def R49 (F24 : Nat → Int → Option Int) (F76 : Nat → Int → Option Int) (N : Nat) (x1 : P8Sh) : Option Int :=
  bindS (F24 N x1.1) (fun (y0 : Int) => jp (fun (y1 : Bool) => br y1
 (some (0))
 (bindS (F76 N x1.2.1) (fun (y2 : Int) => some y2)))
 (fun K3 => br (decide (y0 = 0))
 (K3 true)
 (br (decide (y0 = 3))
 (K3 true)
 (br (decide (y0 = 5))
 (K3 true)
 (br (decide (y0 = 8))
 (K3 true)
 (K3 (decide (y0 = 9))))))))
theorem e49 : g49' = R49 g24' g76' := by kernel_rfl
def F49 : Nat → P8Sh → Option Int := R49 F24 F76
theorem F49_eq : g49' = F49 := by
  rw [e49, F24_eq, F76_eq, F49]
def g50' (N : Nat) (x1 : P8Sh) : Option (List Int) := f50 N (x1)
def R50 (F24 : Nat → Int → Option Int) (F76 : Nat → Int → Option Int) (N : Nat) (x1 : P8Sh) : Option (List Int) :=
  bindS (F24 N x1.1) (fun (y0 : Int) => jp (fun (y1 : List Int) => fixN N (fun again2 (y3 : Int × List Int) => br (decide (y3.1 < (↑y1.length : Int)))
 (jp (fun (y4 : List Int) => again2 ((i64.wrap (y3.1 + 1), y4)))
 (fun K5 => chk (decide (0 ≤ y3.1) && decide (y3.1 < (↑y1.length : Int))) (br (!decide (y1.getD y3.1.toNat 0 = 0))
 (chk (decide ((y3.2.length + [y1.getD y3.1.toNat 0].length) * 8 ≤ lim)) (K5 (y3.2 ++ [y1.getD y3.1.toNat 0])))
 (K5 y3.2))))
 (some y3.2))
 ((0, [])))
 (fun K6 => jp (fun (y7 : Bool) => br y7
 (bindS (F76 N x1.2.2.1) (fun (y8 : Int) => bindS (F76 N x1.2.2.2.1) (fun (y9 : Int) => K6 ([y8, y9]))))
 (jp (fun (y10 : Bool) => br y10
 (bindS (F76 N x1.2.2.1) (fun (y11 : Int) => K6 [y11]))
 (br (decide (y0 = 2))
 (br (decide (x1.1 = 4))
 (bindS (F76 N x1.2.2.1) (fun (y12 : Int) => K6 [y12]))
 (K6 []))
 (K6 [])))
 (fun K13 => br (decide (y0 = 4))
 (K13 true)
 (br (decide (y0 = 6))
 (K13 true)
 (K13 (decide (y0 = 10)))))))
 (fun K14 => br (decide (y0 = 3))
 (K14 true)
 (br (decide (y0 = 5))
 (K14 true)
 (br (decide (y0 = 7))
 (K14 true)
 (br (decide (y0 = 11))
 (K14 true)
 (K14 (decide (y0 = 12)))))))))
theorem e50 : g50' = R50 g24' g76' := by kernel_rfl
def F50 : Nat → P8Sh → Option (List Int) := R50 F24 F76
theorem F50_eq : g50' = F50 := by
  rw [e50, F24_eq, F76_eq, F50]
def g25' (N : Nat) (x1 : P8Sh) : Option (P8Sh) := f25 N (x1)
def R25 (F49 : Nat → P8Sh → Option Int) (F50 : Nat → P8Sh → Option (List Int)) (N : Nat) (x1 : P8Sh) : Option (P8Sh) :=
  jp (fun (y0 : P8Sh) => bindS (F50 N ((x1.1, 1, 2, 3, 0, false, false, 0, 0))) (fun (y1 : List Int) => fixN N (fun again2 (y3 : Int × List Bool) => br (decide (y3.1 < (↑y1.length : Int)))
 (chk (decide (0 ≤ y3.1) && decide (y3.1 < (↑y1.length : Int))) (chk (decide (0 ≤ y1.getD y3.1.toNat 0) && decide (y1.getD y3.1.toNat 0 < (↑4 : Int))) (again2 ((i64.wrap (y3.1 + 1), setD false y3.2 (Int.toNat (y1.getD y3.1.toNat 0)) true)))))
 (jp (fun (y4 : P8Sh) => jp (fun (y5 : P8Sh) => some y5)
 (fun K6 => br (!y3.2.getD (3) false)
 (K6 ((y4.1, (y4.2.1, (y4.2.2.1, (0, y4.2.2.2.2))))))
 (K6 y4)))
 (fun K7 => br (!y3.2.getD (2) false)
 (K7 ((y0.1, (y0.2.1, (0, y0.2.2.2)))))
 (K7 y0))))
 ((0, [false, false, false, false]))))
 (fun K8 => bindS (F49 N ((x1.1, 1, 2, 3, 0, false, false, 0, 0))) (fun (y9 : Int) => br (decide (y9 = 0))
 (K8 ((x1.1, (0, x1.2.2))))
 (K8 x1)))
theorem e25 : g25' = R25 g49' g50' := by kernel_rfl
def F25 : Nat → P8Sh → Option (P8Sh) := R25 F49 F50
theorem F25_eq : g25' = F25 := by
  rw [e25, F49_eq, F50_eq, F25]
def g16' (N : Nat) (x1 : P8Sh) : Option Bool := f16 N (x1)
def R16 (F23 : Nat → P8Sh → Option (Int × Bool)) (F24 : Nat → Int → Option Int) (F25 : Nat → P8Sh → Option (P8Sh)) (N : Nat) (x1 : P8Sh) : Option Bool :=
  bindS (F23 N x1) (fun (y0 : Int × Bool) => bindS (F24 N x1.1) (fun (y1 : Int) => jp (fun (y2 : Bool) => br y2
 (some false)
 (br (decide (x1.1 = 50))
 (jp (fun (y3 : Bool) => some y3)
 (fun K4 => br (decide (0 ≤ x1.2.2.2.2.2.2.2.1))
 (br (decide (x1.2.2.2.2.2.2.2.1 ≤ 15))
 (br (decide (0 ≤ x1.2.2.2.2.2.2.2.2))
 (K4 (decide (x1.2.2.2.2.2.2.2.2 ≤ 15)))
 (K4 false))
 (K4 false))
 (K4 false)))
 (br (decide (x1.1 = 51))
 (jp (fun (y5 : Bool) => some y5)
 (fun K6 => br (decide (x1.2.2.2.2.2.2.2.1 = 3))
 (K6 (decide (x1.2.2.2.2.2.2.2.2 = 3)))
 (K6 false)))
 (fixN N (fun again7 (y8 : Int) => br (decide (y8 < 3))
 (chk (decide (0 ≤ y8) && decide (y8 < (↑3 : Int))) (jp (fun (y9 : Bool) => br y9
 (some false)
 (again7 (i64.wrap (y8 + 1))))
 (fun K10 => br (decide ([x1.2.1, x1.2.2.1, x1.2.2.2.1].getD y8.toNat 0 < 0))
 (K10 true)
 (K10 (decide (31 < [x1.2.1, x1.2.2.1, x1.2.2.2.1].getD y8.toNat 0))))))
 (jp (fun (y11 : Bool) => some y11)
 (fun K12 => br (decide (x1.2.2.2.2.2.2.2.1 = 0))
 (K12 (decide (x1.2.2.2.2.2.2.2.2 = 0)))
 (K12 false))))
 (0)))))
 (fun K13 => br (decide (y1 = 0))
 (K13 true)
 (br (!y0.2)
 (K13 true)
 (bindS (F25 N x1) (fun (y14 : P8Sh) => br (!((Ty.int i64).pair ((Ty.int i64).pair ((Ty.int i64).pair ((Ty.int i64).pair ((Ty.int i64).pair (Ty.bool.pair (Ty.bool.pair ((Ty.int i64).pair (Ty.int i64))))))))).eq y14 x1)
 (K13 true)
 (br x1.2.2.2.2.2.1
 (K13 (decide (y1 < 10)))
 (br x1.2.2.2.2.2.2.1
 (K13 (decide (y1 < 10)))
 (K13 false)))))))))
theorem e16 : g16' = R16 g23' g24' g25' := by kernel_rfl
def F16 : Nat → P8Sh → Option Bool := R16 F23 F24 F25
theorem F16_eq : g16' = F16 := by
  rw [e16, F23_eq, F24_eq, F25_eq, F16]
def g67' (N : Nat) (x1 : Int) : Option (List UInt8) := f67 N (x1)
def F67 (N : Nat) (x1 : Int) : Option (List UInt8) := itoaS N (x1)
theorem F67_eq : g67' = F67 := rfl
def g51' (N : Nat) (x1 : Int) : Option (List UInt8) := f51 N (x1)
def R51 (F67 : Nat → Int → Option (List UInt8)) (N : Nat) (x1 : Int) : Option (List UInt8) :=
  bindS (F67 N x1) (fun (y0 : List UInt8) => chk (decide (([120] : List UInt8).length + y0.length ≤ 9223372036854775807)) (some (([120] : List UInt8) ++ y0)))
theorem e51 : g51' = R51 g67' := by kernel_rfl
def F51 : Nat → Int → Option (List UInt8) := R51 F67
theorem F51_eq : g51' = F51 := by
  rw [e51, F67_eq, F51]
def g52' (N : Nat) (x1 : Int) : Option (List UInt8) := f52 N (x1)
def F52 (N : Nat) (x1 : Int) : Option (List UInt8) :=
  fixN N (fun again0 (y1 : P3Sh) => br (decide (y1.2 < 4))
 (jp (fun (y2 : List UInt8) => again0 ((y2, i64.wrap (y1.2 + 1))))
 (fun K3 => chk (decide (0 ≤ y1.2)) (br (!decide (bits BinOp.and i64 x1 (Int.fdiv 8 (2 ^ Min.min y1.2.toNat i64.bits)) = 0))
 (chk (decide (0 ≤ y1.2) && decide (0 ≤ i64.wrap (y1.2 + 1)) && y1.2.toNat.ble (i64.wrap (y1.2 + 1)).toNat && (i64.wrap (y1.2 + 1)).toNat.ble ([105, 111, 114, 119] : List UInt8).length) (chk (decide (y1.1.length + (List.take ((i64.wrap (y1.2 + 1)).toNat - y1.2.toNat) (List.drop y1.2.toNat ([105, 111, 114, 119] : List UInt8))).length ≤ 9223372036854775807)) (K3 (y1.1 ++ List.take ((i64.wrap (y1.2 + 1)).toNat - y1.2.toNat) (List.drop y1.2.toNat ([105, 111, 114, 119] : List UInt8))))))
 (K3 y1.1))))
 (br (y1.1 == [])
 (some (([48] : List UInt8)))
 (some y1.1)))
 (([], 0))
theorem F52_eq : g52' = F52 := by kernel_rfl
def g26' (N : Nat) (x1 : P8Sh) : Option (P2Sh) := f26 N (x1)
def R26 (F14 : Nat → Int → Int → Option (List UInt8)) (F24 : Nat → Int → Option Int) (F51 : Nat → Int → Option (List UInt8)) (F52 : Nat → Int → Option (List UInt8)) (N : Nat) (x1 : P8Sh) : Option (P2Sh) :=
  bindS (F14 N x1.2.2.2.2.1 10) (fun (y0 : List UInt8) => bindS (F24 N x1.1) (fun (y1 : Int) => jp (fun (y2 : PUnit) => some [])
 (fun K3 => br (decide (y1 = 1))
 (bindS (F51 N x1.2.1) (fun (y4 : List UInt8) => some ([y4, y0])))
 (br (decide (y1 = 2))
 (br (decide (x1.1 = 3))
 (bindS (F51 N x1.2.1) (fun (y5 : List UInt8) => some ([y5, y0])))
 (bindS (F51 N x1.2.1) (fun (y6 : List UInt8) => bindS (F51 N x1.2.2.1) (fun (y7 : List UInt8) => some ([y6, y7, y0])))))
 (br (decide (y1 = 6))
 (bindS (F51 N x1.2.1) (fun (y8 : List UInt8) => bindS (F51 N x1.2.2.1) (fun (y9 : List UInt8) => some ([y8, y9, y0]))))
 (br (decide (y1 = 3))
 (bindS (F51 N x1.2.2.1) (fun (y10 : List UInt8) => bindS (F51 N x1.2.2.2.1) (fun (y11 : List UInt8) => some ([y10, y11, y0]))))
 (br (decide (y1 = 4))
 (bindS (F51 N x1.2.1) (fun (y12 : List UInt8) => chk (decide (y0.length + ([40] : List UInt8).length ≤ 9223372036854775807)) (bindS (F51 N x1.2.2.1) (fun (y13 : List UInt8) => chk (decide ((y0 ++ ([40] : List UInt8)).length + y13.length ≤ 9223372036854775807)) (chk (decide ((y0 ++ ([40] : List UInt8) ++ y13).length + ([41] : List UInt8).length ≤ 9223372036854775807)) (some ([y12, y0 ++ ([40] : List UInt8) ++ y13 ++ ([41] : List UInt8)])))))))
 (br (decide (y1 = 5))
 (bindS (F51 N x1.2.2.2.1) (fun (y14 : List UInt8) => chk (decide (y0.length + ([40] : List UInt8).length ≤ 9223372036854775807)) (bindS (F51 N x1.2.2.1) (fun (y15 : List UInt8) => chk (decide ((y0 ++ ([40] : List UInt8)).length + y15.length ≤ 9223372036854775807)) (chk (decide ((y0 ++ ([40] : List UInt8) ++ y15).length + ([41] : List UInt8).length ≤ 9223372036854775807)) (some ([y14, y0 ++ ([40] : List UInt8) ++ y15 ++ ([41] : List UInt8)])))))))
 (br (decide (y1 = 7))
 (bindS (F51 N x1.2.1) (fun (y16 : List UInt8) => bindS (F51 N x1.2.2.1) (fun (y17 : List UInt8) => bindS (F51 N x1.2.2.2.1) (fun (y18 : List UInt8) => some ([y16, y17, y18])))))
 (br (decide (y1 = 8))
 (br (decide (x1.1 = 50))
 (bindS (F52 N x1.2.2.2.2.2.2.2.1) (fun (y19 : List UInt8) => bindS (F52 N x1.2.2.2.2.2.2.2.2) (fun (y20 : List UInt8) => some ([y19, y20]))))
 (K3 ()))
 (br (decide (y1 = 10))
 (bindS (F51 N x1.2.1) (fun (y21 : List UInt8) => bindS (F51 N x1.2.2.1) (fun (y22 : List UInt8) => chk (decide (([40] : List UInt8).length + y22.length ≤ 9223372036854775807)) (chk (decide ((([40] : List UInt8) ++ y22).length + ([41] : List UInt8).length ≤ 9223372036854775807)) (some ([y21, ([40] : List UInt8) ++ y22 ++ ([41] : List UInt8)]))))))
 (jp (fun (y23 : Bool) => br y23
 (bindS (F51 N x1.2.1) (fun (y24 : List UInt8) => bindS (F51 N x1.2.2.2.1) (fun (y25 : List UInt8) => bindS (F51 N x1.2.2.1) (fun (y26 : List UInt8) => chk (decide (([40] : List UInt8).length + y26.length ≤ 9223372036854775807)) (chk (decide ((([40] : List UInt8) ++ y26).length + ([41] : List UInt8).length ≤ 9223372036854775807)) (some ([y24, y25, ([40] : List UInt8) ++ y26 ++ ([41] : List UInt8)])))))))
 (K3 ()))
 (fun K27 => br (decide (y1 = 11))
 (K27 true)
 (K27 (decide (y1 = 12))))))))))))))))
theorem e26 : g26' = R26 g14' g24' g51' g52' := by kernel_rfl
def F26 : Nat → P8Sh → Option (P2Sh) := R26 F14 F24 F51 F52
theorem F26_eq : g26' = F26 := by
  rw [e26, F14_eq, F24_eq, F51_eq, F52_eq, F26]
def g77' (N : Nat)  : Option (P2Sh) := f77 N ()
def F77 (N : Nat)  : Option (P2Sh) :=
  some ([[], ([108, 117, 105] : List UInt8), ([97, 117, 105, 112, 99] : List UInt8), ([106, 97, 108] : List UInt8), ([106, 97, 108, 114] : List UInt8), ([98, 101, 113] : List UInt8), ([98, 110, 101] : List UInt8), ([98, 108, 116] : List UInt8), ([98, 103, 101] : List UInt8), ([98, 108, 116, 117] : List UInt8), ([98, 103, 101, 117] : List UInt8), ([108, 98] : List UInt8), ([108, 104] : List UInt8), ([108, 119] : List UInt8), ([108, 100] : List UInt8), ([108, 98, 117] : List UInt8), ([108, 104, 117] : List UInt8), ([108, 119, 117] : List UInt8), ([115, 98] : List UInt8), ([115, 104] : List UInt8), ([115, 119] : List UInt8), ([115, 100] : List UInt8), ([97, 100, 100, 105] : List UInt8), ([115, 108, 116, 105] : List UInt8), ([115, 108, 116, 105, 117] : List UInt8), ([120, 111, 114, 105] : List UInt8), ([111, 114, 105] : List UInt8), ([97, 110, 100, 105] : List UInt8), ([115, 108, 108, 105] : List UInt8), ([115, 114, 108, 105] : List UInt8), ([115, 114, 97, 105] : List UInt8), ([97, 100, 100, 105, 119] : List UInt8), ([115, 108, 108, 105, 119] : List UInt8), ([115, 114, 108, 105, 119] : List UInt8), ([115, 114, 97, 105, 119] : List UInt8), ([97, 100, 100] : List UInt8), ([115, 117, 98] : List UInt8), ([115, 108, 108] : List UInt8), ([115, 108, 116] : List UInt8), ([115, 108, 116, 117] : List UInt8), ([120, 111, 114] : List UInt8), ([115, 114, 108] : List UInt8), ([115, 114, 97] : List UInt8), ([111, 114] : List UInt8), ([97, 110, 100] : List UInt8), ([97, 100, 100, 119] : List UInt8), ([115, 117, 98, 119] : List UInt8), ([115, 108, 108, 119] : List UInt8), ([115, 114, 108, 119] : List UInt8), ([115, 114, 97, 119] : List UInt8), ([102, 101, 110, 99, 101] : List UInt8), ([102, 101, 110, 99, 101, 46, 116, 115, 111] : List UInt8), ([101, 99, 97, 108, 108] : List UInt8), ([101, 98, 114, 101, 97, 107] : List UInt8), ([108, 114, 46, 119] : List UInt8), ([108, 114, 46, 100] : List UInt8), ([115, 99, 46, 119] : List UInt8), ([115, 99, 46, 100] : List UInt8), ([97, 109, 111, 115, 119, 97, 112, 46, 119] : List UInt8), ([97, 109, 111, 97, 100, 100, 46, 119] : List UInt8), ([97, 109, 111, 120, 111, 114, 46, 119] : List UInt8), ([97, 109, 111, 97, 110, 100, 46, 119] : List UInt8), ([97, 109, 111, 111, 114, 46, 119] : List UInt8), ([97, 109, 111, 109, 105, 110, 46, 119] : List UInt8), ([97, 109, 111, 109, 97, 120, 46, 119] : List UInt8), ([97, 109, 111, 109, 105, 110, 117, 46, 119] : List UInt8), ([97, 109, 111, 109, 97, 120, 117, 46, 119] : List UInt8), ([97, 109, 111, 115, 119, 97, 112, 46, 100] : List UInt8), ([97, 109, 111, 97, 100, 100, 46, 100] : List UInt8), ([97, 109, 111, 120, 111, 114, 46, 100] : List UInt8), ([97, 109, 111, 97, 110, 100, 46, 100] : List UInt8), ([97, 109, 111, 111, 114, 46, 100] : List UInt8), ([97, 109, 111, 109, 105, 110, 46, 100] : List UInt8), ([97, 109, 111, 109, 97, 120, 46, 100] : List UInt8), ([97, 109, 111, 109, 105, 110, 117, 46, 100] : List UInt8), ([97, 109, 111, 109, 97, 120, 117, 46, 100] : List UInt8)])
theorem F77_eq : g77' = F77 := by kernel_rfl
def g53' (N : Nat) (x1 : Int) : Option (List UInt8) := f53 N (x1)
def R53 (F24 : Nat → Int → Option Int) (F77 : Nat → Option (P2Sh)) (N : Nat) (x1 : Int) : Option (List UInt8) :=
  bindS (F24 N x1) (fun (y0 : Int) => br (decide (y0 = 0))
 (some [])
 (bindS (F77 N ) (fun (y1 : P2Sh) => chk (decide (0 ≤ x1) && decide (x1 < (↑76 : Int))) (some (y1.getD x1.toNat [])))))
theorem e53 : g53' = R53 g24' g77' := by kernel_rfl
def F53 : Nat → Int → Option (List UInt8) := R53 F24 F77
theorem F53_eq : g53' = F53 := by
  rw [e53, F24_eq, F77_eq, F53]
def g27' (N : Nat) (x1 : P8Sh) : Option (List UInt8) := f27 N (x1)
def R27 (F53 : Nat → Int → Option (List UInt8)) (N : Nat) (x1 : P8Sh) : Option (List UInt8) :=
  bindS (F53 N x1.1) (fun (y0 : List UInt8) => jp (fun (y1 : Bool) => br y1
 (chk (decide (y0.length + ([46, 97, 113, 114, 108] : List UInt8).length ≤ 9223372036854775807)) (some (y0 ++ ([46, 97, 113, 114, 108] : List UInt8))))
 (br x1.2.2.2.2.2.1
 (chk (decide (y0.length + ([46, 97, 113] : List UInt8).length ≤ 9223372036854775807)) (some (y0 ++ ([46, 97, 113] : List UInt8))))
 (br x1.2.2.2.2.2.2.1
 (chk (decide (y0.length + ([46, 114, 108] : List UInt8).length ≤ 9223372036854775807)) (some (y0 ++ ([46, 114, 108] : List UInt8))))
 (some y0))))
 (fun K2 => br x1.2.2.2.2.2.1
 (K2 x1.2.2.2.2.2.2.1)
 (K2 false)))
theorem e27 : g27' = R27 g53' := by kernel_rfl
def F27 : Nat → P8Sh → Option (List UInt8) := R27 F53
theorem F27_eq : g27' = F27 := by
  rw [e27, F53_eq, F27]
def g28' (N : Nat) (x1 : List UInt8) (x2 : List (List UInt8)) : Option (List UInt8) := f28 N (x1, x2)
def F28 (N : Nat) (x1 : List UInt8) (x2 : List (List UInt8)) : Option (List UInt8) := joinS N (x1, x2)
theorem F28_eq : g28' = F28 := rfl
def g17' (N : Nat) (x1 : P8Sh) : Option (List UInt8) := f17 N (x1)
def R17 (F26 : Nat → P8Sh → Option (P2Sh)) (F27 : Nat → P8Sh → Option (List UInt8)) (F28 : Nat → (List UInt8) → (List (List UInt8)) → Option (List UInt8)) (N : Nat) (x1 : P8Sh) : Option (List UInt8) :=
  bindS (F26 N x1) (fun (y0 : P2Sh) => br (decide ((↑y0.length : Int) = 0))
 (bindS (F27 N x1) (fun (y1 : List UInt8) => some y1))
 (bindS (F27 N x1) (fun (y2 : List UInt8) => chk (decide (y2.length + ([32] : List UInt8).length ≤ 9223372036854775807)) (bindS (F28 N (([44, 32] : List UInt8)) y0) (fun (y3 : List UInt8) => chk (decide ((y2 ++ ([32] : List UInt8)).length + y3.length ≤ 9223372036854775807)) (some (y2 ++ ([32] : List UInt8) ++ y3)))))))
theorem e17 : g17' = R17 g26' g27' g28' := by kernel_rfl
def F17 : Nat → P8Sh → Option (List UInt8) := R17 F26 F27 F28
theorem F17_eq : g17' = F17 := by
  rw [e17, F26_eq, F27_eq, F28_eq, F17]
def g11' (N : Nat) (x1 : P8Sh) : Option (P3Sh) := f11 N (x1)
def R11 (F16 : Nat → P8Sh → Option Bool) (F17 : Nat → P8Sh → Option (List UInt8)) (N : Nat) (x1 : P8Sh) : Option (P3Sh) :=
  bindS (F16 N x1) (fun (y0 : Bool) => br (!y0)
 (some (([], 1)))
 (bindS (F17 N x1) (fun (y1 : List UInt8) => some ((y1, 0)))))
theorem e11 : g11' = R11 g16' g17' := by kernel_rfl
def F11 : Nat → P8Sh → Option (P3Sh) := R11 F16 F17
theorem F11_eq : g11' = F11 := by
  rw [e11, F16_eq, F17_eq, F11]
def g80' (N : Nat) (x1 : List UInt8) (x2 : List UInt8) : Option Int := f80 N (x1, x2)
def F80 (N : Nat) (x1 : List UInt8) (x2 : List UInt8) : Option Int := indexS N (x1, x2)
theorem F80_eq : g80' = F80 := rfl
def g57' (N : Nat) (x1 : List UInt8) (x2 : List UInt8) : Option (P6Sh) := f57 N (x1, x2)
def R57 (F80 : Nat → (List UInt8) → (List UInt8) → Option Int) (N : Nat) (x1 : List UInt8) (x2 : List UInt8) : Option (P6Sh) :=
  bindS (F80 N x1 x2) (fun (y0 : Int) => br (decide (0 ≤ y0))
 (chk (decide (0 ≤ y0) && Nat.ble 0 y0.toNat && y0.toNat.ble x1.length) (chk (decide (0 ≤ i64.wrap (y0 + (↑x2.length : Int))) && true && (i64.wrap (y0 + (↑x2.length : Int))).toNat.ble x1.length && x1.length.ble x1.length) (some ((List.take (y0.toNat - 0) (List.drop 0 x1), (List.take (x1.length - (i64.wrap (y0 + (↑x2.length : Int))).toNat) (List.drop (i64.wrap (y0 + (↑x2.length : Int))).toNat x1), true))))))
 (some ((x1, ([], false)))))
theorem e57 : g57' = R57 g80' := by kernel_rfl
def F57 : Nat → (List UInt8) → (List UInt8) → Option (P6Sh) := R57 F80
theorem F57_eq : g57' = F57 := by
  rw [e57, F80_eq, F57]
def g29' (N : Nat) (x1 : List UInt8) (x2 : List UInt8) : Option (P6Sh) := f29 N (x1, x2)
def R29 (F57 : Nat → (List UInt8) → (List UInt8) → Option (P6Sh)) (N : Nat) (x1 : List UInt8) (x2 : List UInt8) : Option (P6Sh) :=
  bindS (F57 N x1 x2) (fun (y0 : P6Sh) => some ((y0.1, (y0.2.1, y0.2.2))))
theorem e29 : g29' = R29 g57' := by kernel_rfl
def F29 : Nat → (List UInt8) → (List UInt8) → Option (P6Sh) := R29 F57
theorem F29_eq : g29' = F29 := by
  rw [e29, F57_eq, F29]
def g82' (N : Nat) (x1 : List UInt8) (x2 : List UInt8) : Option Bool := f82 N (x1, x2)
def F82 (N : Nat) (x1 : List UInt8) (x2 : List UInt8) : Option Bool :=
  jp (fun (y0 : Bool) => some y0)
 (fun K1 => br (decide ((↑x2.length : Int) ≤ (↑x1.length : Int)))
 (chk (decide (0 ≤ i64.wrap ((↑x1.length : Int) - (↑x2.length : Int))) && true && (i64.wrap ((↑x1.length : Int) - (↑x2.length : Int))).toNat.ble x1.length && x1.length.ble x1.length) (K1 (List.take (x1.length - (i64.wrap ((↑x1.length : Int) - (↑x2.length : Int))).toNat) (List.drop (i64.wrap ((↑x1.length : Int) - (↑x2.length : Int))).toNat x1) == x2)))
 (K1 false))
theorem F82_eq : g82' = F82 := by kernel_rfl
def g81' (N : Nat) (x1 : List UInt8) (x2 : List UInt8) : Option (P4Sh) := f81 N (x1, x2)
def R81 (F82 : Nat → (List UInt8) → (List UInt8) → Option Bool) (N : Nat) (x1 : List UInt8) (x2 : List UInt8) : Option (P4Sh) :=
  bindS (F82 N x1 x2) (fun (y0 : Bool) => br (!y0)
 (some ((x1, false)))
 (chk (decide (0 ≤ i64.wrap ((↑x1.length : Int) - (↑x2.length : Int))) && Nat.ble 0 (i64.wrap ((↑x1.length : Int) - (↑x2.length : Int))).toNat && (i64.wrap ((↑x1.length : Int) - (↑x2.length : Int))).toNat.ble x1.length) (some ((List.take ((i64.wrap ((↑x1.length : Int) - (↑x2.length : Int))).toNat - 0) (List.drop 0 x1), true)))))
theorem e81 : g81' = R81 g82' := by kernel_rfl
def F81 : Nat → (List UInt8) → (List UInt8) → Option (P4Sh) := R81 F82
theorem F81_eq : g81' = F81 := by
  rw [e81, F82_eq, F81]
def g58' (N : Nat) (x1 : List UInt8) (x2 : List UInt8) : Option (P4Sh) := f58 N (x1, x2)
def R58 (F81 : Nat → (List UInt8) → (List UInt8) → Option (P4Sh)) (N : Nat) (x1 : List UInt8) (x2 : List UInt8) : Option (P4Sh) :=
  bindS (F81 N x1 x2) (fun (y0 : P4Sh) => some ((y0.1, y0.2)))
theorem e58 : g58' = R58 g81' := by kernel_rfl
def F58 : Nat → (List UInt8) → (List UInt8) → Option (P4Sh) := R58 F81
theorem F58_eq : g58' = F58 := by
  rw [e58, F81_eq, F58]
def g59' (N : Nat) (x1 : List UInt8) : Option Int := f59 N (x1)
def R59 (F77 : Nat → Option (P2Sh)) (N : Nat) (x1 : List UInt8) : Option Int :=
  bindS (F77 N ) (fun (y0 : P2Sh) => fixN N (fun again1 (y2 : Int) => br (decide (y2 < 76))
 (chk (decide (0 ≤ y2) && decide (y2 < (↑76 : Int))) (br (y0.getD y2.toNat [] == x1)
 (some y2)
 (again1 (i64.wrap (y2 + 1)))))
 (some (0)))
 (0))
theorem e59 : g59' = R59 g77' := by kernel_rfl
def F59 : Nat → (List UInt8) → Option Int := R59 F77
theorem F59_eq : g59' = F59 := by
  rw [e59, F77_eq, F59]
def g30' (N : Nat) (x1 : List UInt8) : Option (P8Sh) := f30 N (x1)
def R30 (F58 : Nat → (List UInt8) → (List UInt8) → Option (P4Sh)) (F59 : Nat → (List UInt8) → Option Int) (N : Nat) (x1 : List UInt8) : Option (P8Sh) :=
  fixN N (fun again0 (y1 : Int) => br (decide (y1 < 3))
 (chk (decide (0 ≤ y1) && decide (y1 < (↑3 : Int))) (bindS (F58 N x1 (([(([46, 97, 113, 114, 108] : List UInt8), true, true), (([46, 97, 113] : List UInt8), true, false), (([46, 114, 108] : List UInt8), false, true)].getD y1.toNat ([], false, false)).1)) (fun (y2 : P4Sh) => br y2.2
 (bindS (F59 N y2.1) (fun (y3 : Int) => some ((y3, (0, (0, (0, (0, (([(([46, 97, 113, 114, 108] : List UInt8), true, true), (([46, 97, 113] : List UInt8), true, false), (([46, 114, 108] : List UInt8), false, true)].getD y1.toNat ([], false, false)).2.1, (([(([46, 97, 113, 114, 108] : List UInt8), true, true), (([46, 97, 113] : List UInt8), true, false), (([46, 114, 108] : List UInt8), false, true)].getD y1.toNat ([], false, false)).2.2, (0, 0)))))))))))
 (again0 (i64.wrap (y1 + 1))))))
 (bindS (F59 N x1) (fun (y4 : Int) => some ((y4, (0, (0, (0, (0, (false, (false, (0, 0))))))))))))
 (0)
theorem e30 : g30' = R30 g58' g59' := by kernel_rfl
def F30 : Nat → (List UInt8) → Option (P8Sh) := R30 F58 F59
theorem F30_eq : g30' = F30 := by
  rw [e30, F58_eq, F59_eq, F30]
def g61' (N : Nat) (x1 : List UInt8) (x2 : List UInt8) : Option (List UInt8) := f61 N (x1, x2)
def R61 (F82 : Nat → (List UInt8) → (List UInt8) → Option Bool) (N : Nat) (x1 : List UInt8) (x2 : List UInt8) : Option (List UInt8) :=
  bindS (F82 N x1 x2) (fun (y0 : Bool) => br y0
 (chk (decide (0 ≤ i64.wrap ((↑x1.length : Int) - (↑x2.length : Int))) && Nat.ble 0 (i64.wrap ((↑x1.length : Int) - (↑x2.length : Int))).toNat && (i64.wrap ((↑x1.length : Int) - (↑x2.length : Int))).toNat.ble x1.length) (some (List.take ((i64.wrap ((↑x1.length : Int) - (↑x2.length : Int))).toNat - 0) (List.drop 0 x1))))
 (some x1))
theorem e61 : g61' = R61 g82' := by kernel_rfl
def F61 : Nat → (List UInt8) → (List UInt8) → Option (List UInt8) := R61 F82
theorem F61_eq : g61' = F61 := by
  rw [e61, F82_eq, F61]
def g32' (N : Nat) (x1 : List UInt8) (x2 : List UInt8) : Option (List UInt8) := f32 N (x1, x2)
def R32 (F61 : Nat → (List UInt8) → (List UInt8) → Option (List UInt8)) (N : Nat) (x1 : List UInt8) (x2 : List UInt8) : Option (List UInt8) :=
  bindS (F61 N x1 x2) (fun (y0 : List UInt8) => some y0)
theorem e32 : g32' = R32 g61' := by kernel_rfl
def F32 : Nat → (List UInt8) → (List UInt8) → Option (List UInt8) := R32 F61
theorem F32_eq : g32' = F32 := by
  rw [e32, F61_eq, F32]
def g60' (N : Nat) (x1 : List UInt8) (x2 : List UInt8) : Option Bool := f60 N (x1, x2)
def R60 (F45 : Nat → (List UInt8) → (List UInt8) → Option Bool) (N : Nat) (x1 : List UInt8) (x2 : List UInt8) : Option Bool :=
  bindS (F45 N x1 x2) (fun (y0 : Bool) => some y0)
theorem e60 : g60' = R60 g45' := by kernel_rfl
def F60 : Nat → (List UInt8) → (List UInt8) → Option Bool := R60 F45
theorem F60_eq : g60' = F60 := by
  rw [e60, F45_eq, F60]
def g31' (N : Nat) (x1 : List UInt8) : Option (P2Sh) := f31 N (x1)
def R31 (F60 : Nat → (List UInt8) → (List UInt8) → Option Bool) (N : Nat) (x1 : List UInt8) : Option (P2Sh) :=
  jp (fun (y0 : P2Sh) => some y0)
 (fun K1 => fixN N (fun again2 (y3 : Int × Int × P2Sh) => br (decide (y3.2.1 ≤ (↑x1.length : Int)))
 (jp (fun (y4 : Int × P2Sh) => again2 ((y4.1, (i64.wrap (y3.2.1 + 1), y4.2))))
 (fun K5 => br (decide (y3.2.1 = (↑x1.length : Int)))
 (chk (decide (0 ≤ y3.1) && true && y3.1.toNat.ble x1.length && x1.length.ble x1.length) (chk (decide ((y3.2.2.length + [List.take (x1.length - y3.1.toNat) (List.drop y3.1.toNat x1)].length) * 16 ≤ lim)) (K1 (y3.2.2 ++ [List.take (x1.length - y3.1.toNat) (List.drop y3.1.toNat x1)]))))
 (chk (decide (0 ≤ y3.2.1) && true && y3.2.1.toNat.ble x1.length && x1.length.ble x1.length) (bindS (F60 N (List.take (x1.length - y3.2.1.toNat) (List.drop y3.2.1.toNat x1)) (([44, 32] : List UInt8))) (fun (y6 : Bool) => br y6
 (chk (decide (0 ≤ y3.1) && decide (0 ≤ y3.2.1) && y3.1.toNat.ble y3.2.1.toNat && y3.2.1.toNat.ble x1.length) (chk (decide ((y3.2.2.length + [List.take (y3.2.1.toNat - y3.1.toNat) (List.drop y3.1.toNat x1)].length) * 16 ≤ lim)) (K5 ((i64.wrap (y3.2.1 + 2), y3.2.2 ++ [List.take (y3.2.1.toNat - y3.1.toNat) (List.drop y3.1.toNat x1)])))))
 (chk (decide (0 ≤ y3.2.1) && decide (y3.2.1 < (↑x1.length : Int))) (br (decide ((↑(x1.getD y3.2.1.toNat 0).toNat : Int) = 40))
 (chk (decide (0 ≤ y3.1) && decide (0 ≤ y3.2.1) && y3.1.toNat.ble y3.2.1.toNat && y3.2.1.toNat.ble x1.length) (chk (decide ((y3.2.2.length + [List.take (y3.2.1.toNat - y3.1.toNat) (List.drop y3.1.toNat x1)].length) * 16 ≤ lim)) (K5 ((i64.wrap (y3.2.1 + 1), y3.2.2 ++ [List.take (y3.2.1.toNat - y3.1.toNat) (List.drop y3.1.toNat x1)])))))
 (K5 ((y3.1, y3.2.2))))))))))
 (K1 y3.2.2))
 ((0, (0, []))))
theorem e31 : g31' = R31 g60' := by kernel_rfl
def F31 : Nat → (List UInt8) → Option (P2Sh) := R31 F60
theorem F31_eq : g31' = F31 := by
  rw [e31, F60_eq, F31]
def g33' (N : Nat) (x1 : Int) (x2 : P2Sh) : Option Int := f33 N (x1, x2)
def R33 (F8 : Nat → (List UInt8) → Option (Int × Bool)) (N : Nat) (x1 : Int) (x2 : P2Sh) : Option Int :=
  chk (decide (0 ≤ x1) && decide (x1 < (↑x2.length : Int))) (bindS (F8 N ((x2.getD x1.toNat []))) (fun (y0 : Int × Bool) => some y0.1))
theorem e33 : g33' = R33 g8' := by kernel_rfl
def F33 : Nat → Int → P2Sh → Option Int := R33 F8
theorem F33_eq : g33' = F33 := by
  rw [e33, F8_eq, F33]
def g34' (N : Nat) (x1 : Int) (x2 : P2Sh) : Option Int := f34 N (x1, x2)
def R34 (F6 : Nat → (List UInt8) → Option (Int × Bool)) (N : Nat) (x1 : Int) (x2 : P2Sh) : Option Int :=
  chk (decide (0 ≤ x1) && decide (x1 < (↑x2.length : Int))) (bindS (F6 N ((x2.getD x1.toNat []))) (fun (y0 : Int × Bool) => some y0.1))
theorem e34 : g34' = R34 g6' := by kernel_rfl
def F34 : Nat → Int → P2Sh → Option Int := R34 F6
theorem F34_eq : g34' = F34 := by
  rw [e34, F6_eq, F34]
def g83' (N : Nat) (x1 : List UInt8) (x2 : List UInt8) : Option Int := f83 N (x1, x2)
def R83 (F80 : Nat → (List UInt8) → (List UInt8) → Option Int) (N : Nat) (x1 : List UInt8) (x2 : List UInt8) : Option Int :=
  bindS (F80 N x1 x2) (fun (y0 : Int) => some y0)
theorem e83 : g83' = R83 g80' := by kernel_rfl
def F83 : Nat → (List UInt8) → (List UInt8) → Option Int := R83 F80
theorem F83_eq : g83' = F83 := by
  rw [e83, F80_eq, F83]
def g62' (N : Nat) (x1 : List UInt8) (x2 : List UInt8) : Option Bool := f62 N (x1, x2)
def R62 (F83 : Nat → (List UInt8) → (List UInt8) → Option Int) (N : Nat) (x1 : List UInt8) (x2 : List UInt8) : Option Bool :=
  bindS (F83 N x1 x2) (fun (y0 : Int) => some (decide (0 ≤ y0)))
theorem e62 : g62' = R62 g83' := by kernel_rfl
def F62 : Nat → (List UInt8) → (List UInt8) → Option Bool := R62 F83
theorem F62_eq : g62' = F62 := by
  rw [e62, F83_eq, F62]
def g35' (N : Nat) (x1 : List UInt8) : Option Int := f35 N (x1)
def R35 (F62 : Nat → (List UInt8) → (List UInt8) → Option Bool) (N : Nat) (x1 : List UInt8) : Option Int :=
  fixN N (fun again0 (y1 : Int × Int) => br (decide (y1.2 < 4))
 (jp (fun (y2 : Int) => again0 ((y2, i64.wrap (y1.2 + 1))))
 (fun K3 => chk (decide (0 ≤ y1.2) && decide (0 ≤ i64.wrap (y1.2 + 1)) && y1.2.toNat.ble (i64.wrap (y1.2 + 1)).toNat && (i64.wrap (y1.2 + 1)).toNat.ble ([105, 111, 114, 119] : List UInt8).length) (bindS (F62 N x1 (List.take ((i64.wrap (y1.2 + 1)).toNat - y1.2.toNat) (List.drop y1.2.toNat ([105, 111, 114, 119] : List UInt8)))) (fun (y4 : Bool) => br y4
 (chk (decide (0 ≤ y1.2)) (K3 (bits BinOp.or i64 y1.1 (Int.fdiv 8 (2 ^ Min.min y1.2.toNat i64.bits)))))
 (K3 y1.1)))))
 (some y1.1))
 ((0, 0))
theorem e35 : g35' = R35 g62' := by kernel_rfl
def F35 : Nat → (List UInt8) → Option Int := R35 F62
theorem F35_eq : g35' = F35 := by
  rw [e35, F62_eq, F35]
def g18' (N : Nat) (x1 : List UInt8) : Option (P8Sh) := f18 N (x1)
def R18 (F24 : Nat → Int → Option Int) (F29 : Nat → (List UInt8) → (List UInt8) → Option (P6Sh)) (F30 : Nat → (List UInt8) → Option (P8Sh)) (F31 : Nat → (List UInt8) → Option (P2Sh)) (F32 : Nat → (List UInt8) → (List UInt8) → Option (List UInt8)) (F33 : Nat → Int → P2Sh → Option Int) (F34 : Nat → Int → P2Sh → Option Int) (F35 : Nat → (List UInt8) → Option Int) (N : Nat) (x1 : List UInt8) : Option (P8Sh) :=
  bindS (F29 N x1 (([32] : List UInt8))) (fun (y0 : P6Sh) => bindS (F30 N y0.1) (fun (y1 : P8Sh) => jp (fun (y2 : P8Sh) => bindS (F32 N y0.2.1 (([41] : List UInt8))) (fun (y3 : List UInt8) => bindS (F31 N y3) (fun (y4 : P2Sh) => chk (decide ((y4.length + ([[], [], []] : List (List UInt8)).length) * 16 ≤ lim)) (bindS (F24 N y2.1) (fun (y5 : Int) => jp (fun (y6 : P8Sh) => some y6)
 (fun K7 => br (decide (y5 = 1))
 (bindS (F33 N 0 (y4 ++ [[], [], []])) (fun (y8 : Int) => bindS (F34 N 1 (y4 ++ [[], [], []])) (fun (y9 : Int) => K7 ((y2.1, (y8, (y2.2.2.1, (y2.2.2.2.1, (y9, y2.2.2.2.2.2)))))))))
 (br (decide (y5 = 2))
 (bindS (F33 N 0 (y4 ++ [[], [], []])) (fun (y10 : Int) => bindS (F34 N 1 (y4 ++ [[], [], []])) (fun (y11 : Int) => br (decide (y2.1 = 4))
 (bindS (F33 N 1 (y4 ++ [[], [], []])) (fun (y12 : Int) => bindS (F34 N 2 (y4 ++ [[], [], []])) (fun (y13 : Int) => K7 ((y2.1, (y10, (y12, (y2.2.2.2.1, (y13, y2.2.2.2.2.2)))))))))
 (K7 ((y2.1, (y10, (y2.2.2.1, (y2.2.2.2.1, (y11, y2.2.2.2.2.2))))))))))
 (br (decide (y5 = 6))
 (bindS (F33 N 0 (y4 ++ [[], [], []])) (fun (y14 : Int) => bindS (F33 N 1 (y4 ++ [[], [], []])) (fun (y15 : Int) => bindS (F34 N 2 (y4 ++ [[], [], []])) (fun (y16 : Int) => K7 ((y2.1, (y14, (y15, (y2.2.2.2.1, (y16, y2.2.2.2.2.2))))))))))
 (br (decide (y5 = 3))
 (bindS (F33 N 0 (y4 ++ [[], [], []])) (fun (y17 : Int) => bindS (F33 N 1 (y4 ++ [[], [], []])) (fun (y18 : Int) => bindS (F34 N 2 (y4 ++ [[], [], []])) (fun (y19 : Int) => K7 ((y2.1, (y2.2.1, (y17, (y18, (y19, y2.2.2.2.2.2))))))))))
 (br (decide (y5 = 4))
 (bindS (F33 N 0 (y4 ++ [[], [], []])) (fun (y20 : Int) => bindS (F34 N 1 (y4 ++ [[], [], []])) (fun (y21 : Int) => bindS (F33 N 2 (y4 ++ [[], [], []])) (fun (y22 : Int) => K7 ((y2.1, (y20, (y22, (y2.2.2.2.1, (y21, y2.2.2.2.2.2))))))))))
 (br (decide (y5 = 5))
 (bindS (F33 N 0 (y4 ++ [[], [], []])) (fun (y23 : Int) => bindS (F34 N 1 (y4 ++ [[], [], []])) (fun (y24 : Int) => bindS (F33 N 2 (y4 ++ [[], [], []])) (fun (y25 : Int) => K7 ((y2.1, (y2.2.1, (y25, (y23, (y24, y2.2.2.2.2.2))))))))))
 (br (decide (y5 = 7))
 (bindS (F33 N 0 (y4 ++ [[], [], []])) (fun (y26 : Int) => bindS (F33 N 1 (y4 ++ [[], [], []])) (fun (y27 : Int) => bindS (F33 N 2 (y4 ++ [[], [], []])) (fun (y28 : Int) => K7 ((y2.1, (y26, (y27, (y28, y2.2.2.2.2)))))))))
 (br (decide (y5 = 8))
 (br (decide (y2.1 = 50))
 (chk (decide (0 < (↑(y4 ++ [[], [], []]).length : Int))) (bindS (F35 N (((y4 ++ [[], [], []]).getD (0) []))) (fun (y29 : Int) => chk (decide (1 < (↑(y4 ++ [[], [], []]).length : Int))) (bindS (F35 N (((y4 ++ [[], [], []]).getD (1) []))) (fun (y30 : Int) => K7 ((y2.1, (y2.2.1, (y2.2.2.1, (y2.2.2.2.1, (y2.2.2.2.2.1, (y2.2.2.2.2.2.1, (y2.2.2.2.2.2.2.1, (y29, y30))))))))))))))
 (K7 y2))
 (br (decide (y5 = 10))
 (bindS (F33 N 0 (y4 ++ [[], [], []])) (fun (y31 : Int) => bindS (F33 N 2 (y4 ++ [[], [], []])) (fun (y32 : Int) => K7 ((y2.1, (y31, (y32, y2.2.2.2)))))))
 (jp (fun (y33 : Bool) => br y33
 (bindS (F33 N 0 (y4 ++ [[], [], []])) (fun (y34 : Int) => bindS (F33 N 1 (y4 ++ [[], [], []])) (fun (y35 : Int) => bindS (F33 N 3 (y4 ++ [[], [], []])) (fun (y36 : Int) => K7 ((y2.1, (y34, (y36, (y35, y2.2.2.2.2)))))))))
 (K7 y2))
 (fun K37 => br (decide (y5 = 11))
 (K37 true)
 (K37 (decide (y5 = 12)))))))))))))))))))
 (fun K38 => br (decide (y1.1 = 51))
 (K38 ((y1.1, (y1.2.1, (y1.2.2.1, (y1.2.2.2.1, (y1.2.2.2.2.1, (y1.2.2.2.2.2.1, (y1.2.2.2.2.2.2.1, (3, 3))))))))))
 (K38 y1))))
theorem e18 : g18' = R18 g24' g29' g30' g31' g32' g33' g34' g35' := by kernel_rfl
def F18 : Nat → (List UInt8) → Option (P8Sh) := R18 F24 F29 F30 F31 F32 F33 F34 F35
theorem F18_eq : g18' = F18 := by
  rw [e18, F24_eq, F29_eq, F30_eq, F31_eq, F32_eq, F33_eq, F34_eq, F35_eq, F18]
def g12' (N : Nat) (x1 : List UInt8) : Option (P8Sh × Int) := f12 N (x1)
def R12 (F16 : Nat → P8Sh → Option Bool) (F17 : Nat → P8Sh → Option (List UInt8)) (F18 : Nat → (List UInt8) → Option (P8Sh)) (N : Nat) (x1 : List UInt8) : Option (P8Sh × Int) :=
  bindS (F18 N x1) (fun (y0 : P8Sh) => jp (fun (y1 : Bool) => br y1
 (some (((0, (0, (0, (0, (0, (false, (false, (0, 0)))))))), 5)))
 (some ((y0, 0))))
 (fun K2 => bindS (F16 N y0) (fun (y3 : Bool) => br (!y3)
 (K2 true)
 (bindS (F17 N y0) (fun (y4 : List UInt8) => K2 (!y4 == x1))))))
theorem e12 : g12' = R12 g16' g17' g18' := by kernel_rfl
def F12 : Nat → (List UInt8) → Option (P8Sh × Int) := R12 F16 F17 F18
theorem F12_eq : g12' = F12 := by
  rw [e12, F16_eq, F17_eq, F18_eq, F12]
def g4' (N : Nat) (x1 : P8Sh) (x2 : P8Sh) (x3 : List UInt8) : Option Bool := f4 N (x1, x2, x3)
def R4 (F11 : Nat → P8Sh → Option (P3Sh)) (F12 : Nat → (List UInt8) → Option (P8Sh × Int)) (F5 : Nat → Option Bool) (N : Nat) (x1 : P8Sh) (x2 : P8Sh) (x3 : List UInt8) : Option Bool :=
  bindS (F5 N ) (fun (y0 : Bool) => br (!y0)
 (some false)
 (br (decide (200 < (↑x3.length : Int)))
 (bindS (F5 N ) (fun (y1 : Bool) => some y1))
 (bindS (F11 N x1) (fun (y2 : P3Sh) => jp (fun (y3 : PUnit) => bindS (F11 N x2) (fun (y4 : P3Sh) => jp (fun (y5 : Bool) => br y5
 (some false)
 (bindS (F12 N x3) (fun (y6 : P8Sh × Int) => br (!decide (y6.2 = 0))
 (bindS (F5 N ) (fun (y7 : Bool) => some y7))
 (bindS (F11 N y6.1) (fun (y8 : P3Sh) => jp (fun (y9 : Bool) => some y9)
 (fun K10 => bindS (F5 N ) (fun (y11 : Bool) => br y11
 (br (decide (y8.2 = 0))
 (K10 (y8.1 == x3))
 (K10 false))
 (K10 false))))))))
 (fun K12 => br (decide (y2.2 = 0))
 (br (decide (y4.2 = 0))
 (K12 (!(y2.1 == y4.1) == ((Ty.int i64).pair ((Ty.int i64).pair ((Ty.int i64).pair ((Ty.int i64).pair ((Ty.int i64).pair (Ty.bool.pair (Ty.bool.pair ((Ty.int i64).pair (Ty.int i64))))))))).eq x1 x2))
 (K12 false))
 (K12 false))))
 (fun K13 => br (decide (y2.2 = 0))
 (bindS (F12 N y2.1) (fun (y14 : P8Sh × Int) => jp (fun (y15 : Bool) => br y15
 (some false)
 (K13 ()))
 (fun K16 => br (!decide (y14.2 = 0))
 (K16 true)
 (K16 (!((Ty.int i64).pair ((Ty.int i64).pair ((Ty.int i64).pair ((Ty.int i64).pair ((Ty.int i64).pair (Ty.bool.pair (Ty.bool.pair ((Ty.int i64).pair (Ty.int i64))))))))).eq y14.1 x1)))))
 (K13 ()))))))
theorem e4 : g4' = R4 g11' g12' g5' := by kernel_rfl
def F4 : Nat → P8Sh → P8Sh → (List UInt8) → Option Bool := R4 F11 F12 F5
theorem F4_eq : g4' = F4 := by
  rw [e4, F11_eq, F12_eq, F5_eq, F4]
end
end Go.Proofs.YtkcfkegkhopakaaDoor
