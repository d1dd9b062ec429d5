/- What the contracts' functions come to, as printed. No condition. -/
import Derived.Test.YtkcfkegkhopakaaGreatDoorConSt
import Derived.KernelRfl
namespace Go.Proofs.YtkcfkegkhopakaaGreatDoor
open Go Go.Ev Go.Sh
set_option maxRecDepth 100000
set_option linter.unusedVariables false
noncomputable def g26' (N : Nat) : Option Bool := f26 N ()
noncomputable def F26 (N : Nat) : Option Bool := some true
theorem F26_eq (N : Nat) : g26' N = F26 N := rfl
noncomputable def g55' (N : Nat) (x1 : List Int) : Option (Int) := f55 N (x1)
theorem e55 (N : Nat) (x1 : List Int) : g55' N x1 =
  fixN N (fun again0 (y1 : Int × Int) => br (Decidable.decide (0 ≤ y1.2))
 (chk (Decidable.decide (0 ≤ y1.2) && Decidable.decide (y1.2 < (↑x1.length : Int))) (again0 ((Go.bits Go.BinOp.or IntKind.u64 (IntKind.u64.wrap (y1.1 * 2 ^ Min.min 8 IntKind.u64.bits))
  (IntKind.u64.wrap (x1.getD y1.2.toNat 0)), IntKind.i64.wrap (y1.2 - 1)))))
 (some y1.1))
 ((0, IntKind.i64.wrap ((if 8 < (↑x1.length : Int) then 8 else (↑x1.length : Int)) - 1))) := by kernel_rfl
noncomputable def F55 (N : Nat) (x1 : List Int) : Option (Int) :=
  fixN N (fun again0 (y1 : Int × Int) => br (Decidable.decide (0 ≤ y1.2))
 (chk (Decidable.decide (0 ≤ y1.2) && Decidable.decide (y1.2 < (↑x1.length : Int))) (again0 ((Go.bits Go.BinOp.or IntKind.u64 (IntKind.u64.wrap (y1.1 * 2 ^ Min.min 8 IntKind.u64.bits))
  (IntKind.u64.wrap (x1.getD y1.2.toNat 0)), IntKind.i64.wrap (y1.2 - 1)))))
 (some y1.1))
 ((0, IntKind.i64.wrap ((if 8 < (↑x1.length : Int) then 8 else (↑x1.length : Int)) - 1)))
theorem F55_eq (N : Nat) (x1 : List Int) : g55' N x1 = F55 N x1 := by
  refine (e55 N x1).trans ?_
  rfl
noncomputable def g70' (N : Nat) (x1 : Int) (x2 : Int) : Option (Int) := f70 N (x1, x2)
theorem e70 (N : Nat) (x1 : Int) (x2 : Int) : g70' N x1 x2 =
  br (Decidable.decide (x2 < 1))
 (some 0)
 (br (Decidable.decide (64 ≤ x2))
 (some x1)
 (chk (Decidable.decide (0 ≤ x2)) (some (Go.bits Go.BinOp.and IntKind.u64 x1
  (IntKind.u64.wrap (IntKind.u64.wrap (1 * 2 ^ Min.min x2.toNat IntKind.u64.bits) - 1)))))) := by kernel_rfl
noncomputable def F70 (N : Nat) (x1 : Int) (x2 : Int) : Option (Int) :=
  br (Decidable.decide (x2 < 1))
 (some 0)
 (br (Decidable.decide (64 ≤ x2))
 (some x1)
 (chk (Decidable.decide (0 ≤ x2)) (some (Go.bits Go.BinOp.and IntKind.u64 x1
  (IntKind.u64.wrap (IntKind.u64.wrap (1 * 2 ^ Min.min x2.toNat IntKind.u64.bits) - 1))))))
theorem F70_eq (N : Nat) (x1 : Int) (x2 : Int) : g70' N x1 x2 = F70 N x1 x2 := by
  refine (e70 N x1 x2).trans ?_
  rfl
noncomputable def g168' (N : Nat) (x1 : Int) (x2 : Int) (x3 : Int) : Option (Int) := f168 N (x1, x2, x3)
theorem e168 (N : Nat) (x1 : Int) (x2 : Int) (x3 : Int) : g168' N x1 x2 x3 =
  jp (fun (y0 : Bool) => br y0
 (some 0)
 (chk (Decidable.decide (0 ≤ x3)) (bindS (g70' N ((IntKind.u64.wrap x1).fdiv (2 ^ Min.min x3.toNat IntKind.u64.bits)) (IntKind.i64.wrap (IntKind.i64.wrap (x2 - x3) + 1))) (fun (y1 : Int) => some (IntKind.u32.wrap y1)))))
 (fun K2 => br (Decidable.decide (31 < x2))
 (K2 Bool.true)
 (br (Decidable.decide (x2 < x3))
 (K2 Bool.true)
 (K2 (Decidable.decide (x3 < 0))))) := by kernel_rfl
noncomputable def F168 (N : Nat) (x1 : Int) (x2 : Int) (x3 : Int) : Option (Int) :=
  jp (fun (y0 : Bool) => br y0
 (some 0)
 (chk (Decidable.decide (0 ≤ x3)) (bindS (F70 N ((IntKind.u64.wrap x1).fdiv (2 ^ Min.min x3.toNat IntKind.u64.bits)) (IntKind.i64.wrap (IntKind.i64.wrap (x2 - x3) + 1))) (fun (y1 : Int) => some (IntKind.u32.wrap y1)))))
 (fun K2 => br (Decidable.decide (31 < x2))
 (K2 Bool.true)
 (br (Decidable.decide (x2 < x3))
 (K2 Bool.true)
 (K2 (Decidable.decide (x3 < 0)))))
theorem F168_eq (N : Nat) (x1 : Int) (x2 : Int) (x3 : Int) : g168' N x1 x2 x3 = F168 N x1 x2 x3 := by
  refine (e168 N x1 x2 x3).trans ?_
  simp only [F70_eq, F168]
noncomputable def g167' (N : Nat) (x1 : Int) (x2 : Int) (x3 : Int) : Option (Int) := f167 N (x1, x2, x3)
theorem e167 (N : Nat) (x1 : Int) (x2 : Int) (x3 : Int) : g167' N x1 x2 x3 =
  bindS (g168' N x3 x1 x2) (fun (y0 : Int) => some y0) := by kernel_rfl
noncomputable def F167 (N : Nat) (x1 : Int) (x2 : Int) (x3 : Int) : Option (Int) :=
  bindS (F168 N x3 x1 x2) (fun (y0 : Int) => some y0)
theorem F167_eq (N : Nat) (x1 : Int) (x2 : Int) (x3 : Int) : g167' N x1 x2 x3 = F167 N x1 x2 x3 := by
  refine (e167 N x1 x2 x3).trans ?_
  simp only [F168_eq, F167]
noncomputable def g105' (N : Nat) (x1 : Int) : Option ((Int × (Int × (Int × (Int × (Int × Int)))))) := f105 N (x1)
theorem e105 (N : Nat) (x1 : Int) : g105' N x1 =
  bindS (g167' N 11 7 x1) (fun (y0 : Int) => bindS (g167' N 19 15 x1) (fun (y1 : Int) => bindS (g167' N 24 20 x1) (fun (y2 : Int) => bindS (g167' N 14 12 x1) (fun (y3 : Int) => bindS (g167' N 31 25 x1) (fun (y4 : Int) => some ((x1, (IntKind.i64.wrap y0, (IntKind.i64.wrap y1, (IntKind.i64.wrap y2, (y3, y4))))))))))) := by kernel_rfl
noncomputable def F105 (N : Nat) (x1 : Int) : Option ((Int × (Int × (Int × (Int × (Int × Int)))))) :=
  bindS (F167 N 11 7 x1) (fun (y0 : Int) => bindS (F167 N 19 15 x1) (fun (y1 : Int) => bindS (F167 N 24 20 x1) (fun (y2 : Int) => bindS (F167 N 14 12 x1) (fun (y3 : Int) => bindS (F167 N 31 25 x1) (fun (y4 : Int) => some ((x1, (IntKind.i64.wrap y0, (IntKind.i64.wrap y1, (IntKind.i64.wrap y2, (y3, y4)))))))))))
theorem F105_eq (N : Nat) (x1 : Int) : g105' N x1 = F105 N x1 := by
  refine (e105 N x1).trans ?_
  simp only [F167_eq, F105]
noncomputable def g216' (N : Nat)  : Option (Int × Int × Int × Int × Int × Int × Int × Int × Int × Int × Int × Int × List (Int × (Int × Int)) × List (Int × (Int × Int)) × List (Int × (Int × Int)) × List (Int × (Int × Int)) × List (Int × (Int × Int))) := f216 N ()
theorem e216 (N : Nat)  : g216' N  =
  some ((0, (0, (12, (0, (12, (0, (13, (1, (32, (12, (21, (1, ([(31, 20, 0)], ([(31, 25, 5), (11, 7, 0)], ([(31, 31, 12), (7, 7, 11), (30, 25, 5), (11, 8, 1)], ([(31, 12, 12)], [(31, 31, 20), (19, 12, 12), (20, 20, 11), (30, 21, 1)]))))))))))))))))) := by kernel_rfl
noncomputable def F216 (N : Nat)  : Option (Int × Int × Int × Int × Int × Int × Int × Int × Int × Int × Int × Int × List (Int × (Int × Int)) × List (Int × (Int × Int)) × List (Int × (Int × Int)) × List (Int × (Int × Int)) × List (Int × (Int × Int))) :=
  some ((0, (0, (12, (0, (12, (0, (13, (1, (32, (12, (21, (1, ([(31, 20, 0)], ([(31, 25, 5), (11, 7, 0)], ([(31, 31, 12), (7, 7, 11), (30, 25, 5), (11, 8, 1)], ([(31, 12, 12)], [(31, 31, 20), (19, 12, 12), (20, 20, 11), (30, 21, 1)])))))))))))))))))
theorem F216_eq (N : Nat)  : g216' N  = F216 N  := by
  refine (e216 N ).trans ?_
  rfl
noncomputable def g187' (N : Nat) (x1 : Int) : Option (Int × Int × Bool × List (Int × (Int × Int))) := f187 N (x1)
theorem e187 (N : Nat) (x1 : Int) : g187' N x1 =
  jp (fun (y0 : Bool) => br y0
 (some ((0, (0, (Bool.false, [])))))
 (jp (fun (y1 : Bool × Int × Int × List (Int × Int × Int)) => some ((y1.2.1, (y1.2.2.1, (y1.1, y1.2.2.2)))))
 (fun K2 => bindS (g216' N ) (fun (y3 : Int ×
  Int ×
    Int ×
      Int ×
        Int ×
          Int ×
            Int ×
              Int ×
                Int ×
                  Int ×
                    Int ×
                      Int ×
                        List (Int × Int × Int) ×
                          List (Int × Int × Int) ×
                            List (Int × Int × Int) × List (Int × Int × Int) × List (Int × Int × Int)) => chk (Decidable.decide (0 ≤ x1) && Decidable.decide (x1 < (↑6 : Int))) (br (x1.toNat.beq 0)
 (K2 ((Bool.true, (y3.1, (y3.2.1, [])))))
 (br (x1.toNat.beq (0 + 1))
 (K2 ((Bool.true, (y3.2.2.1, (y3.2.2.2.1, y3.2.2.2.2.2.2.2.2.2.2.2.2.1)))))
 (br (x1.toNat.beq (0 + 1 + 1))
 (K2 ((Bool.true, (y3.2.2.2.2.1, (y3.2.2.2.2.2.1, y3.2.2.2.2.2.2.2.2.2.2.2.2.2.1)))))
 (br (x1.toNat.beq (0 + 1 + 1 + 1))
 (K2 ((Bool.true, (y3.2.2.2.2.2.2.1, (y3.2.2.2.2.2.2.2.1, y3.2.2.2.2.2.2.2.2.2.2.2.2.2.2.1)))))
 (br (x1.toNat.beq (0 + 1 + 1 + 1 + 1))
 (K2 ((Bool.true, (y3.2.2.2.2.2.2.2.2.1, (y3.2.2.2.2.2.2.2.2.2.1, y3.2.2.2.2.2.2.2.2.2.2.2.2.2.2.2.1)))))
 (K2 ((Bool.true, (y3.2.2.2.2.2.2.2.2.2.2.1, (y3.2.2.2.2.2.2.2.2.2.2.2.1, y3.2.2.2.2.2.2.2.2.2.2.2.2.2.2.2.2))))))))))))))
 (fun K4 => br (Decidable.decide (x1 < 1))
 (K4 Bool.true)
 (K4 (Decidable.decide (5 < x1)))) := by kernel_rfl
noncomputable def F187 (N : Nat) (x1 : Int) : Option (Int × Int × Bool × List (Int × (Int × Int))) :=
  jp (fun (y0 : Bool) => br y0
 (some ((0, (0, (Bool.false, [])))))
 (jp (fun (y1 : Bool × Int × Int × List (Int × Int × Int)) => some ((y1.2.1, (y1.2.2.1, (y1.1, y1.2.2.2)))))
 (fun K2 => bindS (F216 N ) (fun (y3 : Int ×
  Int ×
    Int ×
      Int ×
        Int ×
          Int ×
            Int ×
              Int ×
                Int ×
                  Int ×
                    Int ×
                      Int ×
                        List (Int × Int × Int) ×
                          List (Int × Int × Int) ×
                            List (Int × Int × Int) × List (Int × Int × Int) × List (Int × Int × Int)) => chk (Decidable.decide (0 ≤ x1) && Decidable.decide (x1 < (↑6 : Int))) (br (x1.toNat.beq 0)
 (K2 ((Bool.true, (y3.1, (y3.2.1, [])))))
 (br (x1.toNat.beq (0 + 1))
 (K2 ((Bool.true, (y3.2.2.1, (y3.2.2.2.1, y3.2.2.2.2.2.2.2.2.2.2.2.2.1)))))
 (br (x1.toNat.beq (0 + 1 + 1))
 (K2 ((Bool.true, (y3.2.2.2.2.1, (y3.2.2.2.2.2.1, y3.2.2.2.2.2.2.2.2.2.2.2.2.2.1)))))
 (br (x1.toNat.beq (0 + 1 + 1 + 1))
 (K2 ((Bool.true, (y3.2.2.2.2.2.2.1, (y3.2.2.2.2.2.2.2.1, y3.2.2.2.2.2.2.2.2.2.2.2.2.2.2.1)))))
 (br (x1.toNat.beq (0 + 1 + 1 + 1 + 1))
 (K2 ((Bool.true, (y3.2.2.2.2.2.2.2.2.1, (y3.2.2.2.2.2.2.2.2.2.1, y3.2.2.2.2.2.2.2.2.2.2.2.2.2.2.2.1)))))
 (K2 ((Bool.true, (y3.2.2.2.2.2.2.2.2.2.2.1, (y3.2.2.2.2.2.2.2.2.2.2.2.1, y3.2.2.2.2.2.2.2.2.2.2.2.2.2.2.2.2))))))))))))))
 (fun K4 => br (Decidable.decide (x1 < 1))
 (K4 Bool.true)
 (K4 (Decidable.decide (5 < x1))))
theorem F187_eq (N : Nat) (x1 : Int) : g187' N x1 = F187 N x1 := by
  refine (e187 N x1).trans ?_
  simp only [F216_eq, F187]
noncomputable def g127' (N : Nat) (x1 : Int) (x2 : Int) : Option (Int) := f127 N (x1, x2)
theorem e127 (N : Nat) (x1 : Int) (x2 : Int) : g127' N x1 x2 =
  jp (fun (y0 : Bool) => br y0
 (bindS (g70' N x1 x2) (fun (y1 : Int) => some y1))
 (chk (Decidable.decide (0 ≤ IntKind.i64.wrap (64 - x2))) (chk (Decidable.decide (0 ≤ IntKind.i64.wrap (64 - x2))) (some (IntKind.u64.wrap
  ((IntKind.i64.wrap
        (IntKind.u64.wrap (x1 * 2 ^ Min.min (IntKind.i64.wrap (64 - x2)).toNat IntKind.u64.bits))).fdiv
    (2 ^ Min.min (IntKind.i64.wrap (64 - x2)).toNat IntKind.i64.bits)))))))
 (fun K2 => br (Decidable.decide (x2 < 1))
 (K2 Bool.true)
 (K2 (Decidable.decide (64 ≤ x2)))) := by kernel_rfl
noncomputable def F127 (N : Nat) (x1 : Int) (x2 : Int) : Option (Int) :=
  jp (fun (y0 : Bool) => br y0
 (bindS (F70 N x1 x2) (fun (y1 : Int) => some y1))
 (chk (Decidable.decide (0 ≤ IntKind.i64.wrap (64 - x2))) (chk (Decidable.decide (0 ≤ IntKind.i64.wrap (64 - x2))) (some (IntKind.u64.wrap
  ((IntKind.i64.wrap
        (IntKind.u64.wrap (x1 * 2 ^ Min.min (IntKind.i64.wrap (64 - x2)).toNat IntKind.u64.bits))).fdiv
    (2 ^ Min.min (IntKind.i64.wrap (64 - x2)).toNat IntKind.i64.bits)))))))
 (fun K2 => br (Decidable.decide (x2 < 1))
 (K2 Bool.true)
 (K2 (Decidable.decide (64 ≤ x2))))
theorem F127_eq (N : Nat) (x1 : Int) (x2 : Int) : g127' N x1 x2 = F127 N x1 x2 := by
  refine (e127 N x1 x2).trans ?_
  simp only [F70_eq, F127]
noncomputable def g159' (N : Nat) (x1 : Int) (x2 : Int) : Option (Int) := f159 N (x1, x2)
theorem e159 (N : Nat) (x1 : Int) (x2 : Int) : g159' N x1 x2 =
  bindS (g187' N x1) (fun (y0 : Int × Int × Bool × List (Int × Int × Int)) => br (!y0.2.2.1)
 (some 0)
 (fixN N (fun again1 (y2 : Int × Int) => br (Decidable.decide (y2.2 < (↑y0.2.2.2.length : Int)))
 (chk (Decidable.decide (0 ≤ y2.2) && Decidable.decide (y2.2 < (↑y0.2.2.2.length : Int))) (bindS (g168' N x2 ((y0.2.2.2.getD y2.2.toNat (0, 0, 0)).1) ((y0.2.2.2.getD y2.2.toNat (0, 0, 0)).2.1)) (fun (y3 : Int) => chk (Decidable.decide (0 ≤ (y0.2.2.2.getD y2.2.toNat (0, 0, 0)).2.2)) (again1 ((Go.bits Go.BinOp.or IntKind.u64 y2.1
  (IntKind.u64.wrap
    (IntKind.u64.wrap y3 * 2 ^ Min.min (Int.toNat (y0.2.2.2.getD y2.2.toNat (0, 0, 0)).2.2) IntKind.u64.bits)), IntKind.i64.wrap (y2.2 + 1)))))))
 (bindS (g127' N y2.1 y0.1) (fun (y4 : Int) => some (IntKind.i64.wrap y4))))
 ((0, 0)))) := by kernel_rfl
noncomputable def F159 (N : Nat) (x1 : Int) (x2 : Int) : Option (Int) :=
  bindS (F187 N x1) (fun (y0 : Int × Int × Bool × List (Int × Int × Int)) => br (!y0.2.2.1)
 (some 0)
 (fixN N (fun again1 (y2 : Int × Int) => br (Decidable.decide (y2.2 < (↑y0.2.2.2.length : Int)))
 (chk (Decidable.decide (0 ≤ y2.2) && Decidable.decide (y2.2 < (↑y0.2.2.2.length : Int))) (bindS (F168 N x2 ((y0.2.2.2.getD y2.2.toNat (0, 0, 0)).1) ((y0.2.2.2.getD y2.2.toNat (0, 0, 0)).2.1)) (fun (y3 : Int) => chk (Decidable.decide (0 ≤ (y0.2.2.2.getD y2.2.toNat (0, 0, 0)).2.2)) (again1 ((Go.bits Go.BinOp.or IntKind.u64 y2.1
  (IntKind.u64.wrap
    (IntKind.u64.wrap y3 * 2 ^ Min.min (Int.toNat (y0.2.2.2.getD y2.2.toNat (0, 0, 0)).2.2) IntKind.u64.bits)), IntKind.i64.wrap (y2.2 + 1)))))))
 (bindS (F127 N y2.1 y0.1) (fun (y4 : Int) => some (IntKind.i64.wrap y4))))
 ((0, 0))))
theorem F159_eq (N : Nat) (x1 : Int) (x2 : Int) : g159' N x1 x2 = F159 N x1 x2 := by
  refine (e159 N x1 x2).trans ?_
  simp only [F127_eq, F168_eq, F187_eq, F159]
noncomputable def g160' (N : Nat) (x1 : (Int × (Int × (Int × (Int × (Int × Int)))))) : Option (Int × Int) := f160 N (x1)
theorem e160 (N : Nat) (x1 : (Int × (Int × (Int × (Int × (Int × Int)))))) : g160' N x1 =
  bindS (g168' N x1.1 25 20) (fun (y0 : Int) => bindS (g168' N x1.1 31 26) (fun (y1 : Int) => jp (fun (y2 : Bool) => br y2
 (some ((28, IntKind.i64.wrap y0)))
 (jp (fun (y3 : Bool) => br y3
 (some ((29, IntKind.i64.wrap y0)))
 (jp (fun (y4 : Bool) => br y4
 (some ((30, IntKind.i64.wrap y0)))
 (chk (Decidable.decide (0 ≤ x1.2.2.2.2.1) && Decidable.decide (x1.2.2.2.2.1 < (↑8 : Int))) (bindS (g159' N 1 x1.1) (fun (y5 : Int) => some (([22, 0, 23, 24, 25, 0, 26, 27].getD x1.2.2.2.2.1.toNat 0, y5))))))
 (fun K6 => br (Decidable.decide (x1.2.2.2.2.1 = 5))
 (K6 (Decidable.decide (y1 = 16)))
 (K6 Bool.false))))
 (fun K7 => br (Decidable.decide (x1.2.2.2.2.1 = 5))
 (K7 (Decidable.decide (y1 = 0)))
 (K7 Bool.false))))
 (fun K8 => br (Decidable.decide (x1.2.2.2.2.1 = 1))
 (K8 (Decidable.decide (y1 = 0)))
 (K8 Bool.false)))) := by kernel_rfl
noncomputable def F160 (N : Nat) (x1 : (Int × (Int × (Int × (Int × (Int × Int)))))) : Option (Int × Int) :=
  bindS (F168 N x1.1 25 20) (fun (y0 : Int) => bindS (F168 N x1.1 31 26) (fun (y1 : Int) => jp (fun (y2 : Bool) => br y2
 (some ((28, IntKind.i64.wrap y0)))
 (jp (fun (y3 : Bool) => br y3
 (some ((29, IntKind.i64.wrap y0)))
 (jp (fun (y4 : Bool) => br y4
 (some ((30, IntKind.i64.wrap y0)))
 (chk (Decidable.decide (0 ≤ x1.2.2.2.2.1) && Decidable.decide (x1.2.2.2.2.1 < (↑8 : Int))) (bindS (F159 N 1 x1.1) (fun (y5 : Int) => some (([22, 0, 23, 24, 25, 0, 26, 27].getD x1.2.2.2.2.1.toNat 0, y5))))))
 (fun K6 => br (Decidable.decide (x1.2.2.2.2.1 = 5))
 (K6 (Decidable.decide (y1 = 16)))
 (K6 Bool.false))))
 (fun K7 => br (Decidable.decide (x1.2.2.2.2.1 = 5))
 (K7 (Decidable.decide (y1 = 0)))
 (K7 Bool.false))))
 (fun K8 => br (Decidable.decide (x1.2.2.2.2.1 = 1))
 (K8 (Decidable.decide (y1 = 0)))
 (K8 Bool.false))))
theorem F160_eq (N : Nat) (x1 : (Int × (Int × (Int × (Int × (Int × Int)))))) : g160' N x1 = F160 N x1 := by
  refine (e160 N x1).trans ?_
  simp only [F159_eq, F168_eq, F160]
noncomputable def g161' (N : Nat) (x1 : (Int × (Int × (Int × (Int × (Int × Int)))))) : Option (Int × Int) := f161 N (x1)
theorem e161 (N : Nat) (x1 : (Int × (Int × (Int × (Int × (Int × Int)))))) : g161' N x1 =
  br (Decidable.decide (x1.2.2.2.2.1 = 0))
 (bindS (g159' N 1 x1.1) (fun (y0 : Int) => some ((31, y0))))
 (jp (fun (y1 : Bool) => br y1
 (some ((32, x1.2.2.2.1)))
 (jp (fun (y2 : Bool) => br y2
 (some ((33, x1.2.2.2.1)))
 (jp (fun (y3 : Bool) => br y3
 (some ((34, x1.2.2.2.1)))
 (some ((0, 0))))
 (fun K4 => br (Decidable.decide (x1.2.2.2.2.1 = 5))
 (K4 (Decidable.decide (x1.2.2.2.2.2 = 32)))
 (K4 Bool.false))))
 (fun K5 => br (Decidable.decide (x1.2.2.2.2.1 = 5))
 (K5 (Decidable.decide (x1.2.2.2.2.2 = 0)))
 (K5 Bool.false))))
 (fun K6 => br (Decidable.decide (x1.2.2.2.2.1 = 1))
 (K6 (Decidable.decide (x1.2.2.2.2.2 = 0)))
 (K6 Bool.false))) := by kernel_rfl
noncomputable def F161 (N : Nat) (x1 : (Int × (Int × (Int × (Int × (Int × Int)))))) : Option (Int × Int) :=
  br (Decidable.decide (x1.2.2.2.2.1 = 0))
 (bindS (F159 N 1 x1.1) (fun (y0 : Int) => some ((31, y0))))
 (jp (fun (y1 : Bool) => br y1
 (some ((32, x1.2.2.2.1)))
 (jp (fun (y2 : Bool) => br y2
 (some ((33, x1.2.2.2.1)))
 (jp (fun (y3 : Bool) => br y3
 (some ((34, x1.2.2.2.1)))
 (some ((0, 0))))
 (fun K4 => br (Decidable.decide (x1.2.2.2.2.1 = 5))
 (K4 (Decidable.decide (x1.2.2.2.2.2 = 32)))
 (K4 Bool.false))))
 (fun K5 => br (Decidable.decide (x1.2.2.2.2.1 = 5))
 (K5 (Decidable.decide (x1.2.2.2.2.2 = 0)))
 (K5 Bool.false))))
 (fun K6 => br (Decidable.decide (x1.2.2.2.2.1 = 1))
 (K6 (Decidable.decide (x1.2.2.2.2.2 = 0)))
 (K6 Bool.false)))
theorem F161_eq (N : Nat) (x1 : (Int × (Int × (Int × (Int × (Int × Int)))))) : g161' N x1 = F161 N x1 := by
  refine (e161 N x1).trans ?_
  simp only [F159_eq, F161]
noncomputable def g162' (N : Nat)  : Option (List Int × List Int) := f162 N ()
theorem e162 (N : Nat)  : g162' N  =
  some (([35, 37, 38, 39, 40, 41, 43, 44], [36, 0, 0, 0, 0, 42, 0, 0])) := by kernel_rfl
noncomputable def F162 (N : Nat)  : Option (List Int × List Int) :=
  some (([35, 37, 38, 39, 40, 41, 43, 44], [36, 0, 0, 0, 0, 42, 0, 0]))
theorem F162_eq (N : Nat)  : g162' N  = F162 N  := by
  refine (e162 N ).trans ?_
  rfl
noncomputable def g163' (N : Nat) (x1 : (Int × (Int × (Int × (Int × (Int × Int)))))) (x2 : List Int) (x3 : List Int) : Option (Int) := f163 N (x1, x2, x3)
theorem e163 (N : Nat) (x1 : (Int × (Int × (Int × (Int × (Int × Int)))))) (x2 : List Int) (x3 : List Int) : g163' N x1 x2 x3 =
  br (Decidable.decide (x1.2.2.2.2.2 = 0))
 (chk (Decidable.decide (0 ≤ x1.2.2.2.2.1) && Decidable.decide (x1.2.2.2.2.1 < (↑8 : Int))) (some (x2.getD x1.2.2.2.2.1.toNat 0)))
 (br (Decidable.decide (x1.2.2.2.2.2 = 32))
 (chk (Decidable.decide (0 ≤ x1.2.2.2.2.1) && Decidable.decide (x1.2.2.2.2.1 < (↑8 : Int))) (some (x3.getD x1.2.2.2.2.1.toNat 0)))
 (some 0)) := by kernel_rfl
noncomputable def F163 (N : Nat) (x1 : (Int × (Int × (Int × (Int × (Int × Int)))))) (x2 : List Int) (x3 : List Int) : Option (Int) :=
  br (Decidable.decide (x1.2.2.2.2.2 = 0))
 (chk (Decidable.decide (0 ≤ x1.2.2.2.2.1) && Decidable.decide (x1.2.2.2.2.1 < (↑8 : Int))) (some (x2.getD x1.2.2.2.2.1.toNat 0)))
 (br (Decidable.decide (x1.2.2.2.2.2 = 32))
 (chk (Decidable.decide (0 ≤ x1.2.2.2.2.1) && Decidable.decide (x1.2.2.2.2.1 < (↑8 : Int))) (some (x3.getD x1.2.2.2.2.1.toNat 0)))
 (some 0))
theorem F163_eq (N : Nat) (x1 : (Int × (Int × (Int × (Int × (Int × Int)))))) (x2 : List Int) (x3 : List Int) : g163' N x1 x2 x3 = F163 N x1 x2 x3 := by
  refine (e163 N x1 x2 x3).trans ?_
  rfl
noncomputable def g164' (N : Nat)  : Option (List Int × List Int) := f164 N ()
theorem e164 (N : Nat)  : g164' N  =
  some (([45, 47, 0, 0, 0, 48, 0, 0], [46, 0, 0, 0, 0, 49, 0, 0])) := by kernel_rfl
noncomputable def F164 (N : Nat)  : Option (List Int × List Int) :=
  some (([45, 47, 0, 0, 0, 48, 0, 0], [46, 0, 0, 0, 0, 49, 0, 0]))
theorem F164_eq (N : Nat)  : g164' N  = F164 N  := by
  refine (e164 N ).trans ?_
  rfl
noncomputable def g165' (N : Nat) (x1 : Int) : Option ((Int × (Int × (Int × (Int × (Int × (Bool × (Bool × (Int × Int))))))))) := f165 N (x1)
theorem e165 (N : Nat) (x1 : Int) : g165' N x1 =
  bindS (g168' N x1 31 20) (fun (y0 : Int) => br (Decidable.decide (y0 = 2099))
 (some ((51, (0, (0, (0, (0, (Bool.false, (Bool.false, (3, 3))))))))))
 (bindS (g168' N x1 27 24) (fun (y1 : Int) => bindS (g168' N x1 23 20) (fun (y2 : Int) => some ((50, (0, (0, (0, (0, (Bool.false, (Bool.false, (IntKind.i64.wrap y1, IntKind.i64.wrap y2))))))))))))) := by kernel_rfl
noncomputable def F165 (N : Nat) (x1 : Int) : Option ((Int × (Int × (Int × (Int × (Int × (Bool × (Bool × (Int × Int))))))))) :=
  bindS (F168 N x1 31 20) (fun (y0 : Int) => br (Decidable.decide (y0 = 2099))
 (some ((51, (0, (0, (0, (0, (Bool.false, (Bool.false, (3, 3))))))))))
 (bindS (F168 N x1 27 24) (fun (y1 : Int) => bindS (F168 N x1 23 20) (fun (y2 : Int) => some ((50, (0, (0, (0, (0, (Bool.false, (Bool.false, (IntKind.i64.wrap y1, IntKind.i64.wrap y2)))))))))))))
theorem F165_eq (N : Nat) (x1 : Int) : g165' N x1 = F165 N x1 := by
  refine (e165 N x1).trans ?_
  simp only [F168_eq, F165]
noncomputable def g166' (N : Nat) (x1 : (Int × (Int × (Int × (Int × (Int × Int)))))) : Option (Int) := f166 N (x1)
theorem e166 (N : Nat) (x1 : (Int × (Int × (Int × (Int × (Int × Int)))))) : g166' N x1 =
  bindS (g168' N x1.1 31 27) (fun (y0 : Int) => jp (fun (y1 : Int) => jp (fun (y2 : Bool) => br y2
 (some y1)
 (br (!Decidable.decide (x1.2.2.2.2.1 = 3))
 (some 0)
 (br (Decidable.decide (y1 ≤ 56))
 (some (IntKind.i64.wrap (y1 + 1)))
 (some (IntKind.i64.wrap (IntKind.i64.wrap (y1 + 67) - 58))))))
 (fun K3 => br (Decidable.decide (y1 = 0))
 (K3 Bool.true)
 (K3 (Decidable.decide (x1.2.2.2.2.1 = 2)))))
 (fun K4 => br (Decidable.decide (y0 = 2))
 (br (Decidable.decide (x1.2.2.2.1 = 0))
 (K4 54)
 (K4 0))
 (br (Decidable.decide (y0 = 3))
 (K4 56)
 (br (Decidable.decide (y0 = 1))
 (K4 58)
 (br (Decidable.decide (y0 = 0))
 (K4 59)
 (br (Decidable.decide (y0 = 4))
 (K4 60)
 (br (Decidable.decide (y0 = 12))
 (K4 61)
 (br (Decidable.decide (y0 = 8))
 (K4 62)
 (br (Decidable.decide (y0 = 16))
 (K4 63)
 (br (Decidable.decide (y0 = 20))
 (K4 64)
 (br (Decidable.decide (y0 = 24))
 (K4 65)
 (br (Decidable.decide (y0 = 28))
 (K4 66)
 (K4 0))))))))))))) := by kernel_rfl
noncomputable def F166 (N : Nat) (x1 : (Int × (Int × (Int × (Int × (Int × Int)))))) : Option (Int) :=
  bindS (F168 N x1.1 31 27) (fun (y0 : Int) => jp (fun (y1 : Int) => jp (fun (y2 : Bool) => br y2
 (some y1)
 (br (!Decidable.decide (x1.2.2.2.2.1 = 3))
 (some 0)
 (br (Decidable.decide (y1 ≤ 56))
 (some (IntKind.i64.wrap (y1 + 1)))
 (some (IntKind.i64.wrap (IntKind.i64.wrap (y1 + 67) - 58))))))
 (fun K3 => br (Decidable.decide (y1 = 0))
 (K3 Bool.true)
 (K3 (Decidable.decide (x1.2.2.2.2.1 = 2)))))
 (fun K4 => br (Decidable.decide (y0 = 2))
 (br (Decidable.decide (x1.2.2.2.1 = 0))
 (K4 54)
 (K4 0))
 (br (Decidable.decide (y0 = 3))
 (K4 56)
 (br (Decidable.decide (y0 = 1))
 (K4 58)
 (br (Decidable.decide (y0 = 0))
 (K4 59)
 (br (Decidable.decide (y0 = 4))
 (K4 60)
 (br (Decidable.decide (y0 = 12))
 (K4 61)
 (br (Decidable.decide (y0 = 8))
 (K4 62)
 (br (Decidable.decide (y0 = 16))
 (K4 63)
 (br (Decidable.decide (y0 = 20))
 (K4 64)
 (br (Decidable.decide (y0 = 24))
 (K4 65)
 (br (Decidable.decide (y0 = 28))
 (K4 66)
 (K4 0)))))))))))))
theorem F166_eq (N : Nat) (x1 : (Int × (Int × (Int × (Int × (Int × Int)))))) : g166' N x1 = F166 N x1 := by
  refine (e166 N x1).trans ?_
  simp only [F168_eq, F166]
noncomputable def g104' (N : Nat) (x1 : (Int × (Int × (Int × (Int × (Int × Int)))))) : Option ((Int × (Int × (Int × (Int × (Int × (Bool × (Bool × (Int × Int))))))))) := f104 N (x1)
theorem e104 (N : Nat) (x1 : (Int × (Int × (Int × (Int × (Int × Int)))))) : g104' N x1 =
  jp (fun (y0 : Int × Int × Int × Int × Int × Bool × Bool × Int × Int) => some y0)
 (fun K1 => br (Decidable.decide (Go.bits Go.BinOp.and IntKind.u32 x1.1 127 = 55))
 (bindS (g159' N 4 x1.1) (fun (y2 : Int) => K1 ((1, (x1.2.1, (x1.2.2.1, (x1.2.2.2.1, (y2, (Bool.false, (Bool.false, (0, 0)))))))))))
 (br (Decidable.decide (Go.bits Go.BinOp.and IntKind.u32 x1.1 127 = 23))
 (bindS (g159' N 4 x1.1) (fun (y3 : Int) => K1 ((2, (x1.2.1, (x1.2.2.1, (x1.2.2.2.1, (y3, (Bool.false, (Bool.false, (0, 0)))))))))))
 (br (Decidable.decide (Go.bits Go.BinOp.and IntKind.u32 x1.1 127 = 111))
 (bindS (g159' N 5 x1.1) (fun (y4 : Int) => K1 ((3, (x1.2.1, (x1.2.2.1, (x1.2.2.2.1, (y4, (Bool.false, (Bool.false, (0, 0)))))))))))
 (br (Decidable.decide (Go.bits Go.BinOp.and IntKind.u32 x1.1 127 = 103))
 (br (Decidable.decide (x1.2.2.2.2.1 = 0))
 (bindS (g159' N 1 x1.1) (fun (y5 : Int) => K1 ((4, (x1.2.1, (x1.2.2.1, (x1.2.2.2.1, (y5, (Bool.false, (Bool.false, (0, 0)))))))))))
 (K1 ((0, (x1.2.1, (x1.2.2.1, (x1.2.2.2.1, (0, (Bool.false, (Bool.false, (0, 0)))))))))))
 (br (Decidable.decide (Go.bits Go.BinOp.and IntKind.u32 x1.1 127 = 99))
 (chk (Decidable.decide (0 ≤ x1.2.2.2.2.1) && Decidable.decide (x1.2.2.2.2.1 < (↑8 : Int))) (bindS (g159' N 3 x1.1) (fun (y6 : Int) => K1 (([5, 6, 0, 0, 7, 8, 9, 10].getD x1.2.2.2.2.1.toNat 0, (x1.2.1, (x1.2.2.1, (x1.2.2.2.1, (y6, (Bool.false, (Bool.false, (0, 0))))))))))))
 (br (Decidable.decide (Go.bits Go.BinOp.and IntKind.u32 x1.1 127 = 3))
 (br (Decidable.decide (x1.2.2.2.2.1 < 7))
 (bindS (g159' N 1 x1.1) (fun (y7 : Int) => K1 ((IntKind.i64.wrap (11 + IntKind.i64.wrap x1.2.2.2.2.1), (x1.2.1, (x1.2.2.1, (x1.2.2.2.1, (y7, (Bool.false, (Bool.false, (0, 0)))))))))))
 (K1 ((0, (x1.2.1, (x1.2.2.1, (x1.2.2.2.1, (0, (Bool.false, (Bool.false, (0, 0)))))))))))
 (br (Decidable.decide (Go.bits Go.BinOp.and IntKind.u32 x1.1 127 = 35))
 (br (Decidable.decide (x1.2.2.2.2.1 < 4))
 (bindS (g159' N 2 x1.1) (fun (y8 : Int) => K1 ((IntKind.i64.wrap (18 + IntKind.i64.wrap x1.2.2.2.2.1), (x1.2.1, (x1.2.2.1, (x1.2.2.2.1, (y8, (Bool.false, (Bool.false, (0, 0)))))))))))
 (K1 ((0, (x1.2.1, (x1.2.2.1, (x1.2.2.2.1, (0, (Bool.false, (Bool.false, (0, 0)))))))))))
 (br (Decidable.decide (Go.bits Go.BinOp.and IntKind.u32 x1.1 127 = 19))
 (bindS (g160' N x1) (fun (y9 : Int × Int) => K1 ((y9.1, (x1.2.1, (x1.2.2.1, (x1.2.2.2.1, (y9.2, (Bool.false, (Bool.false, (0, 0)))))))))))
 (br (Decidable.decide (Go.bits Go.BinOp.and IntKind.u32 x1.1 127 = 27))
 (bindS (g161' N x1) (fun (y10 : Int × Int) => K1 ((y10.1, (x1.2.1, (x1.2.2.1, (x1.2.2.2.1, (y10.2, (Bool.false, (Bool.false, (0, 0)))))))))))
 (br (Decidable.decide (Go.bits Go.BinOp.and IntKind.u32 x1.1 127 = 51))
 (bindS (g162' N ) (fun (y11 : List Int × List Int) => bindS (g163' N x1 y11.1 y11.2) (fun (y12 : Int) => K1 ((y12, (x1.2.1, (x1.2.2.1, (x1.2.2.2.1, (0, (Bool.false, (Bool.false, (0, 0))))))))))))
 (br (Decidable.decide (Go.bits Go.BinOp.and IntKind.u32 x1.1 127 = 59))
 (bindS (g164' N ) (fun (y13 : List Int × List Int) => bindS (g163' N x1 y13.1 y13.2) (fun (y14 : Int) => K1 ((y14, (x1.2.1, (x1.2.2.1, (x1.2.2.2.1, (0, (Bool.false, (Bool.false, (0, 0))))))))))))
 (br (Decidable.decide (Go.bits Go.BinOp.and IntKind.u32 x1.1 127 = 15))
 (br (Decidable.decide (x1.2.2.2.2.1 = 0))
 (bindS (g165' N x1.1) (fun (y15 : Int × Int × Int × Int × Int × Bool × Bool × Int × Int) => some y15))
 (K1 ((0, (x1.2.1, (x1.2.2.1, (x1.2.2.2.1, (0, (Bool.false, (Bool.false, (0, 0)))))))))))
 (br (Decidable.decide (Go.bits Go.BinOp.and IntKind.u32 x1.1 127 = 115))
 (jp (fun (y16 : Int × Int × Int × Int × Int × Bool × Bool × Int × Int) => K1 y16)
 (fun K17 => br (Decidable.decide (x1.1 = 115))
 (K17 ((52, (x1.2.1, (x1.2.2.1, (x1.2.2.2.1, (0, (Bool.false, (Bool.false, (0, 0))))))))))
 (br (Decidable.decide (x1.1 = 1048691))
 (K17 ((53, (x1.2.1, (x1.2.2.1, (x1.2.2.2.1, (0, (Bool.false, (Bool.false, (0, 0))))))))))
 (K17 ((0, (x1.2.1, (x1.2.2.1, (x1.2.2.2.1, (0, (Bool.false, (Bool.false, (0, 0)))))))))))))
 (br (Decidable.decide (Go.bits Go.BinOp.and IntKind.u32 x1.1 127 = 47))
 (bindS (g166' N x1) (fun (y18 : Int) => K1 ((y18, (x1.2.1, (x1.2.2.1, (x1.2.2.2.1, (0, (Decidable.decide (Go.bits Go.BinOp.and IntKind.u32 (x1.1.fdiv (2 ^ Min.min 26 IntKind.u32.bits)) 1 = 1), (Decidable.decide (Go.bits Go.BinOp.and IntKind.u32 (x1.1.fdiv (2 ^ Min.min 25 IntKind.u32.bits)) 1 = 1), (0, 0)))))))))))
 (K1 ((0, (x1.2.1, (x1.2.2.1, (x1.2.2.2.1, (0, (Bool.false, (Bool.false, (0, 0)))))))))))))))))))))))) := by kernel_rfl
noncomputable def F104 (N : Nat) (x1 : (Int × (Int × (Int × (Int × (Int × Int)))))) : Option ((Int × (Int × (Int × (Int × (Int × (Bool × (Bool × (Int × Int))))))))) :=
  jp (fun (y0 : Int × Int × Int × Int × Int × Bool × Bool × Int × Int) => some y0)
 (fun K1 => br (Decidable.decide (Go.bits Go.BinOp.and IntKind.u32 x1.1 127 = 55))
 (bindS (F159 N 4 x1.1) (fun (y2 : Int) => K1 ((1, (x1.2.1, (x1.2.2.1, (x1.2.2.2.1, (y2, (Bool.false, (Bool.false, (0, 0)))))))))))
 (br (Decidable.decide (Go.bits Go.BinOp.and IntKind.u32 x1.1 127 = 23))
 (bindS (F159 N 4 x1.1) (fun (y3 : Int) => K1 ((2, (x1.2.1, (x1.2.2.1, (x1.2.2.2.1, (y3, (Bool.false, (Bool.false, (0, 0)))))))))))
 (br (Decidable.decide (Go.bits Go.BinOp.and IntKind.u32 x1.1 127 = 111))
 (bindS (F159 N 5 x1.1) (fun (y4 : Int) => K1 ((3, (x1.2.1, (x1.2.2.1, (x1.2.2.2.1, (y4, (Bool.false, (Bool.false, (0, 0)))))))))))
 (br (Decidable.decide (Go.bits Go.BinOp.and IntKind.u32 x1.1 127 = 103))
 (br (Decidable.decide (x1.2.2.2.2.1 = 0))
 (bindS (F159 N 1 x1.1) (fun (y5 : Int) => K1 ((4, (x1.2.1, (x1.2.2.1, (x1.2.2.2.1, (y5, (Bool.false, (Bool.false, (0, 0)))))))))))
 (K1 ((0, (x1.2.1, (x1.2.2.1, (x1.2.2.2.1, (0, (Bool.false, (Bool.false, (0, 0)))))))))))
 (br (Decidable.decide (Go.bits Go.BinOp.and IntKind.u32 x1.1 127 = 99))
 (chk (Decidable.decide (0 ≤ x1.2.2.2.2.1) && Decidable.decide (x1.2.2.2.2.1 < (↑8 : Int))) (bindS (F159 N 3 x1.1) (fun (y6 : Int) => K1 (([5, 6, 0, 0, 7, 8, 9, 10].getD x1.2.2.2.2.1.toNat 0, (x1.2.1, (x1.2.2.1, (x1.2.2.2.1, (y6, (Bool.false, (Bool.false, (0, 0))))))))))))
 (br (Decidable.decide (Go.bits Go.BinOp.and IntKind.u32 x1.1 127 = 3))
 (br (Decidable.decide (x1.2.2.2.2.1 < 7))
 (bindS (F159 N 1 x1.1) (fun (y7 : Int) => K1 ((IntKind.i64.wrap (11 + IntKind.i64.wrap x1.2.2.2.2.1), (x1.2.1, (x1.2.2.1, (x1.2.2.2.1, (y7, (Bool.false, (Bool.false, (0, 0)))))))))))
 (K1 ((0, (x1.2.1, (x1.2.2.1, (x1.2.2.2.1, (0, (Bool.false, (Bool.false, (0, 0)))))))))))
 (br (Decidable.decide (Go.bits Go.BinOp.and IntKind.u32 x1.1 127 = 35))
 (br (Decidable.decide (x1.2.2.2.2.1 < 4))
 (bindS (F159 N 2 x1.1) (fun (y8 : Int) => K1 ((IntKind.i64.wrap (18 + IntKind.i64.wrap x1.2.2.2.2.1), (x1.2.1, (x1.2.2.1, (x1.2.2.2.1, (y8, (Bool.false, (Bool.false, (0, 0)))))))))))
 (K1 ((0, (x1.2.1, (x1.2.2.1, (x1.2.2.2.1, (0, (Bool.false, (Bool.false, (0, 0)))))))))))
 (br (Decidable.decide (Go.bits Go.BinOp.and IntKind.u32 x1.1 127 = 19))
 (bindS (F160 N x1) (fun (y9 : Int × Int) => K1 ((y9.1, (x1.2.1, (x1.2.2.1, (x1.2.2.2.1, (y9.2, (Bool.false, (Bool.false, (0, 0)))))))))))
 (br (Decidable.decide (Go.bits Go.BinOp.and IntKind.u32 x1.1 127 = 27))
 (bindS (F161 N x1) (fun (y10 : Int × Int) => K1 ((y10.1, (x1.2.1, (x1.2.2.1, (x1.2.2.2.1, (y10.2, (Bool.false, (Bool.false, (0, 0)))))))))))
 (br (Decidable.decide (Go.bits Go.BinOp.and IntKind.u32 x1.1 127 = 51))
 (bindS (F162 N ) (fun (y11 : List Int × List Int) => bindS (F163 N x1 y11.1 y11.2) (fun (y12 : Int) => K1 ((y12, (x1.2.1, (x1.2.2.1, (x1.2.2.2.1, (0, (Bool.false, (Bool.false, (0, 0))))))))))))
 (br (Decidable.decide (Go.bits Go.BinOp.and IntKind.u32 x1.1 127 = 59))
 (bindS (F164 N ) (fun (y13 : List Int × List Int) => bindS (F163 N x1 y13.1 y13.2) (fun (y14 : Int) => K1 ((y14, (x1.2.1, (x1.2.2.1, (x1.2.2.2.1, (0, (Bool.false, (Bool.false, (0, 0))))))))))))
 (br (Decidable.decide (Go.bits Go.BinOp.and IntKind.u32 x1.1 127 = 15))
 (br (Decidable.decide (x1.2.2.2.2.1 = 0))
 (bindS (F165 N x1.1) (fun (y15 : Int × Int × Int × Int × Int × Bool × Bool × Int × Int) => some y15))
 (K1 ((0, (x1.2.1, (x1.2.2.1, (x1.2.2.2.1, (0, (Bool.false, (Bool.false, (0, 0)))))))))))
 (br (Decidable.decide (Go.bits Go.BinOp.and IntKind.u32 x1.1 127 = 115))
 (jp (fun (y16 : Int × Int × Int × Int × Int × Bool × Bool × Int × Int) => K1 y16)
 (fun K17 => br (Decidable.decide (x1.1 = 115))
 (K17 ((52, (x1.2.1, (x1.2.2.1, (x1.2.2.2.1, (0, (Bool.false, (Bool.false, (0, 0))))))))))
 (br (Decidable.decide (x1.1 = 1048691))
 (K17 ((53, (x1.2.1, (x1.2.2.1, (x1.2.2.2.1, (0, (Bool.false, (Bool.false, (0, 0))))))))))
 (K17 ((0, (x1.2.1, (x1.2.2.1, (x1.2.2.2.1, (0, (Bool.false, (Bool.false, (0, 0)))))))))))))
 (br (Decidable.decide (Go.bits Go.BinOp.and IntKind.u32 x1.1 127 = 47))
 (bindS (F166 N x1) (fun (y18 : Int) => K1 ((y18, (x1.2.1, (x1.2.2.1, (x1.2.2.2.1, (0, (Decidable.decide (Go.bits Go.BinOp.and IntKind.u32 (x1.1.fdiv (2 ^ Min.min 26 IntKind.u32.bits)) 1 = 1), (Decidable.decide (Go.bits Go.BinOp.and IntKind.u32 (x1.1.fdiv (2 ^ Min.min 25 IntKind.u32.bits)) 1 = 1), (0, 0)))))))))))
 (K1 ((0, (x1.2.1, (x1.2.2.1, (x1.2.2.2.1, (0, (Bool.false, (Bool.false, (0, 0))))))))))))))))))))))))
theorem F104_eq (N : Nat) (x1 : (Int × (Int × (Int × (Int × (Int × Int)))))) : g104' N x1 = F104 N x1 := by
  refine (e104 N x1).trans ?_
  simp only [F159_eq, F160_eq, F161_eq, F162_eq, F163_eq, F164_eq, F165_eq, F166_eq, F104]
noncomputable def g72' (N : Nat) (x1 : Int) : Option (Int) := f72 N (x1)
theorem e72 (N : Nat) (x1 : Int) : g72' N x1 =
  jp (fun (y0 : Bool) => br y0
 (some 0)
 (br (Decidable.decide (x1 ≤ 2))
 (some 1)
 (br (Decidable.decide (x1 ≤ 4))
 (some 2)
 (br (Decidable.decide (x1 ≤ 10))
 (some 3)
 (br (Decidable.decide (x1 ≤ 17))
 (some 4)
 (br (Decidable.decide (x1 ≤ 21))
 (some 5)
 (br (Decidable.decide (x1 ≤ 34))
 (some 6)
 (br (Decidable.decide (x1 ≤ 49))
 (some 7)
 (br (Decidable.decide (x1 ≤ 51))
 (some 8)
 (br (Decidable.decide (x1 ≤ 53))
 (some 9)
 (br (Decidable.decide (x1 ≤ 55))
 (some 10)
 (br (Decidable.decide (x1 ≤ 57))
 (some 11)
 (some 12)))))))))))))
 (fun K1 => br (Decidable.decide (x1 < 1))
 (K1 Bool.true)
 (K1 (Decidable.decide (75 < x1)))) := by kernel_rfl
noncomputable def F72 (N : Nat) (x1 : Int) : Option (Int) :=
  jp (fun (y0 : Bool) => br y0
 (some 0)
 (br (Decidable.decide (x1 ≤ 2))
 (some 1)
 (br (Decidable.decide (x1 ≤ 4))
 (some 2)
 (br (Decidable.decide (x1 ≤ 10))
 (some 3)
 (br (Decidable.decide (x1 ≤ 17))
 (some 4)
 (br (Decidable.decide (x1 ≤ 21))
 (some 5)
 (br (Decidable.decide (x1 ≤ 34))
 (some 6)
 (br (Decidable.decide (x1 ≤ 49))
 (some 7)
 (br (Decidable.decide (x1 ≤ 51))
 (some 8)
 (br (Decidable.decide (x1 ≤ 53))
 (some 9)
 (br (Decidable.decide (x1 ≤ 55))
 (some 10)
 (br (Decidable.decide (x1 ≤ 57))
 (some 11)
 (some 12)))))))))))))
 (fun K1 => br (Decidable.decide (x1 < 1))
 (K1 Bool.true)
 (K1 (Decidable.decide (75 < x1))))
theorem F72_eq (N : Nat) (x1 : Int) : g72' N x1 = F72 N x1 := by
  refine (e72 N x1).trans ?_
  rfl
noncomputable def g129' (N : Nat) (x1 : Int) : Option (Int) := f129 N (x1)
theorem e129 (N : Nat) (x1 : Int) : g129' N x1 =
  jp (fun (y0 : Bool) => br y0
 (some 0)
 (some x1))
 (fun K1 => br (Decidable.decide (x1 < 0))
 (K1 Bool.true)
 (K1 (Decidable.decide (31 < x1)))) := by kernel_rfl
noncomputable def F129 (N : Nat) (x1 : Int) : Option (Int) :=
  jp (fun (y0 : Bool) => br y0
 (some 0)
 (some x1))
 (fun K1 => br (Decidable.decide (x1 < 0))
 (K1 Bool.true)
 (K1 (Decidable.decide (31 < x1))))
theorem F129_eq (N : Nat) (x1 : Int) : g129' N x1 = F129 N x1 := by
  refine (e129 N x1).trans ?_
  rfl
noncomputable def g76' (N : Nat) (x1 : (Int × (Int × (Int × (Int × (Int × (Bool × (Bool × (Int × Int))))))))) : Option (Int) := f76 N (x1)
theorem e76 (N : Nat) (x1 : (Int × (Int × (Int × (Int × (Int × (Bool × (Bool × (Int × Int))))))))) : g76' N x1 =
  bindS (g72' N x1.1) (fun (y0 : Int) => jp (fun (y1 : Bool) => br y1
 (some 0)
 (bindS (g129' N x1.2.1) (fun (y2 : Int) => some y2)))
 (fun K3 => br (Decidable.decide (y0 = 0))
 (K3 Bool.true)
 (br (Decidable.decide (y0 = 3))
 (K3 Bool.true)
 (br (Decidable.decide (y0 = 5))
 (K3 Bool.true)
 (br (Decidable.decide (y0 = 8))
 (K3 Bool.true)
 (K3 (Decidable.decide (y0 = 9)))))))) := by kernel_rfl
noncomputable def F76 (N : Nat) (x1 : (Int × (Int × (Int × (Int × (Int × (Bool × (Bool × (Int × Int))))))))) : Option (Int) :=
  bindS (F72 N x1.1) (fun (y0 : Int) => jp (fun (y1 : Bool) => br y1
 (some 0)
 (bindS (F129 N x1.2.1) (fun (y2 : Int) => some y2)))
 (fun K3 => br (Decidable.decide (y0 = 0))
 (K3 Bool.true)
 (br (Decidable.decide (y0 = 3))
 (K3 Bool.true)
 (br (Decidable.decide (y0 = 5))
 (K3 Bool.true)
 (br (Decidable.decide (y0 = 8))
 (K3 Bool.true)
 (K3 (Decidable.decide (y0 = 9))))))))
theorem F76_eq (N : Nat) (x1 : (Int × (Int × (Int × (Int × (Int × (Bool × (Bool × (Int × Int))))))))) : g76' N x1 = F76 N x1 := by
  refine (e76 N x1).trans ?_
  simp only [F129_eq, F72_eq, F76]
noncomputable def g146' (N : Nat) (x1 : (Int × (Int × (Int × (Int × (Int × (Bool × (Bool × (Int × Int))))))))) : Option (List Int) := f146 N (x1)
theorem e146 (N : Nat) (x1 : (Int × (Int × (Int × (Int × (Int × (Bool × (Bool × (Int × Int))))))))) : g146' N x1 =
  bindS (g72' N x1.1) (fun (y0 : Int) => jp (fun (y1 : List Int) => fixN N (fun again2 (y3 : Int × List Int) => br (Decidable.decide (y3.1 < (↑y1.length : Int)))
 (jp (fun (y4 : List Int) => again2 ((IntKind.i64.wrap (y3.1 + 1), y4)))
 (fun K5 => chk (Decidable.decide (0 ≤ y3.1) && Decidable.decide (y3.1 < (↑y1.length : Int))) (br (!Decidable.decide (y1.getD y3.1.toNat 0 = 0))
 (chk (Decidable.decide ((y3.2.length + [y1.getD y3.1.toNat 0].length) * 8 ≤ lim)) (K5 (y3.2 ++ [y1.getD y3.1.toNat 0])))
 (K5 y3.2))))
 (some y3.2))
 ((0, [])))
 (fun K6 => jp (fun (y7 : Bool) => br y7
 (bindS (g129' N x1.2.2.1) (fun (y8 : Int) => bindS (g129' N x1.2.2.2.1) (fun (y9 : Int) => K6 ([y8, y9]))))
 (jp (fun (y10 : Bool) => br y10
 (bindS (g129' N x1.2.2.1) (fun (y11 : Int) => K6 [y11]))
 (br (Decidable.decide (y0 = 2))
 (br (Decidable.decide (x1.1 = 4))
 (bindS (g129' N x1.2.2.1) (fun (y12 : Int) => K6 [y12]))
 (K6 []))
 (K6 [])))
 (fun K13 => br (Decidable.decide (y0 = 4))
 (K13 Bool.true)
 (br (Decidable.decide (y0 = 6))
 (K13 Bool.true)
 (K13 (Decidable.decide (y0 = 10)))))))
 (fun K14 => br (Decidable.decide (y0 = 3))
 (K14 Bool.true)
 (br (Decidable.decide (y0 = 5))
 (K14 Bool.true)
 (br (Decidable.decide (y0 = 7))
 (K14 Bool.true)
 (br (Decidable.decide (y0 = 11))
 (K14 Bool.true)
 (K14 (Decidable.decide (y0 = 12))))))))) := by kernel_rfl
noncomputable def F146 (N : Nat) (x1 : (Int × (Int × (Int × (Int × (Int × (Bool × (Bool × (Int × Int))))))))) : Option (List Int) :=
  bindS (F72 N x1.1) (fun (y0 : Int) => jp (fun (y1 : List Int) => fixN N (fun again2 (y3 : Int × List Int) => br (Decidable.decide (y3.1 < (↑y1.length : Int)))
 (jp (fun (y4 : List Int) => again2 ((IntKind.i64.wrap (y3.1 + 1), y4)))
 (fun K5 => chk (Decidable.decide (0 ≤ y3.1) && Decidable.decide (y3.1 < (↑y1.length : Int))) (br (!Decidable.decide (y1.getD y3.1.toNat 0 = 0))
 (chk (Decidable.decide ((y3.2.length + [y1.getD y3.1.toNat 0].length) * 8 ≤ lim)) (K5 (y3.2 ++ [y1.getD y3.1.toNat 0])))
 (K5 y3.2))))
 (some y3.2))
 ((0, [])))
 (fun K6 => jp (fun (y7 : Bool) => br y7
 (bindS (F129 N x1.2.2.1) (fun (y8 : Int) => bindS (F129 N x1.2.2.2.1) (fun (y9 : Int) => K6 ([y8, y9]))))
 (jp (fun (y10 : Bool) => br y10
 (bindS (F129 N x1.2.2.1) (fun (y11 : Int) => K6 [y11]))
 (br (Decidable.decide (y0 = 2))
 (br (Decidable.decide (x1.1 = 4))
 (bindS (F129 N x1.2.2.1) (fun (y12 : Int) => K6 [y12]))
 (K6 []))
 (K6 [])))
 (fun K13 => br (Decidable.decide (y0 = 4))
 (K13 Bool.true)
 (br (Decidable.decide (y0 = 6))
 (K13 Bool.true)
 (K13 (Decidable.decide (y0 = 10)))))))
 (fun K14 => br (Decidable.decide (y0 = 3))
 (K14 Bool.true)
 (br (Decidable.decide (y0 = 5))
 (K14 Bool.true)
 (br (Decidable.decide (y0 = 7))
 (K14 Bool.true)
 (br (Decidable.decide (y0 = 11))
 (K14 Bool.true)
 (K14 (Decidable.decide (y0 = 12)))))))))
theorem F146_eq (N : Nat) (x1 : (Int × (Int × (Int × (Int × (Int × (Bool × (Bool × (Int × Int))))))))) : g146' N x1 = F146 N x1 := by
  refine (e146 N x1).trans ?_
  simp only [F129_eq, F72_eq, F146]
noncomputable def g92' (N : Nat) (x1 : (Int × (Int × (Int × (Int × (Int × (Bool × (Bool × (Int × Int))))))))) : Option ((Int × (Int × (Int × (Int × (Int × (Bool × (Bool × (Int × Int))))))))) := f92 N (x1)
theorem e92 (N : Nat) (x1 : (Int × (Int × (Int × (Int × (Int × (Bool × (Bool × (Int × Int))))))))) : g92' N x1 =
  jp (fun (y0 : Int × Int × Int × Int × Int × Bool × Bool × Int × Int) => bindS (g146' N ((x1.1, 1, 2, 3, 0, Bool.false, Bool.false, 0, 0))) (fun (y1 : List Int) => fixN N (fun again2 (y3 : Int × List Bool) => br (Decidable.decide (y3.1 < (↑y1.length : Int)))
 (chk (Decidable.decide (0 ≤ y3.1) && Decidable.decide (y3.1 < (↑y1.length : Int))) (chk (Decidable.decide (0 ≤ y1.getD y3.1.toNat 0) && Decidable.decide (y1.getD y3.1.toNat 0 < (↑4 : Int))) (again2 ((IntKind.i64.wrap (y3.1 + 1), setD Bool.false y3.2 (Int.toNat (y1.getD y3.1.toNat 0)) Bool.true)))))
 (jp (fun (y4 : Int × Int × Int × Int × Int × Bool × Bool × Int × Int) => jp (fun (y5 : Int × Int × Int × Int × Int × Bool × Bool × Int × Int) => some y5)
 (fun K6 => br (!y3.2.getD 3 Bool.false)
 (K6 ((y4.1, (y4.2.1, (y4.2.2.1, (0, y4.2.2.2.2))))))
 (K6 y4)))
 (fun K7 => br (!y3.2.getD 2 Bool.false)
 (K7 ((y0.1, (y0.2.1, (0, y0.2.2.2)))))
 (K7 y0))))
 ((0, [Bool.false, Bool.false, Bool.false, Bool.false]))))
 (fun K8 => bindS (g76' N ((x1.1, 1, 2, 3, 0, Bool.false, Bool.false, 0, 0))) (fun (y9 : Int) => br (Decidable.decide (y9 = 0))
 (K8 ((x1.1, (0, x1.2.2))))
 (K8 x1))) := by kernel_rfl
noncomputable def F92 (N : Nat) (x1 : (Int × (Int × (Int × (Int × (Int × (Bool × (Bool × (Int × Int))))))))) : Option ((Int × (Int × (Int × (Int × (Int × (Bool × (Bool × (Int × Int))))))))) :=
  jp (fun (y0 : Int × Int × Int × Int × Int × Bool × Bool × Int × Int) => bindS (F146 N ((x1.1, 1, 2, 3, 0, Bool.false, Bool.false, 0, 0))) (fun (y1 : List Int) => fixN N (fun again2 (y3 : Int × List Bool) => br (Decidable.decide (y3.1 < (↑y1.length : Int)))
 (chk (Decidable.decide (0 ≤ y3.1) && Decidable.decide (y3.1 < (↑y1.length : Int))) (chk (Decidable.decide (0 ≤ y1.getD y3.1.toNat 0) && Decidable.decide (y1.getD y3.1.toNat 0 < (↑4 : Int))) (again2 ((IntKind.i64.wrap (y3.1 + 1), setD Bool.false y3.2 (Int.toNat (y1.getD y3.1.toNat 0)) Bool.true)))))
 (jp (fun (y4 : Int × Int × Int × Int × Int × Bool × Bool × Int × Int) => jp (fun (y5 : Int × Int × Int × Int × Int × Bool × Bool × Int × Int) => some y5)
 (fun K6 => br (!y3.2.getD 3 Bool.false)
 (K6 ((y4.1, (y4.2.1, (y4.2.2.1, (0, y4.2.2.2.2))))))
 (K6 y4)))
 (fun K7 => br (!y3.2.getD 2 Bool.false)
 (K7 ((y0.1, (y0.2.1, (0, y0.2.2.2)))))
 (K7 y0))))
 ((0, [Bool.false, Bool.false, Bool.false, Bool.false]))))
 (fun K8 => bindS (F76 N ((x1.1, 1, 2, 3, 0, Bool.false, Bool.false, 0, 0))) (fun (y9 : Int) => br (Decidable.decide (y9 = 0))
 (K8 ((x1.1, (0, x1.2.2))))
 (K8 x1)))
theorem F92_eq (N : Nat) (x1 : (Int × (Int × (Int × (Int × (Int × (Bool × (Bool × (Int × Int))))))))) : g92' N x1 = F92 N x1 := by
  refine (e92 N x1).trans ?_
  simp only [F146_eq, F76_eq, F92]
noncomputable def g56' (N : Nat) (x1 : Int) : Option ((Int × (Int × (Int × (Int × (Int × (Bool × (Bool × (Int × Int)))))))) × Int) := f56 N (x1)
theorem e56 (N : Nat) (x1 : Int) : g56' N x1 =
  bindS (g105' N x1) (fun (y0 : Int × Int × Int × Int × Int × Int) => bindS (g104' N y0) (fun (y1 : Int × Int × Int × Int × Int × Bool × Bool × Int × Int) => br (Decidable.decide (y1.1 = 0))
 (some (((0, (0, (0, (0, (0, (Bool.false, (Bool.false, (0, 0)))))))), 2)))
 (bindS (g92' N y1) (fun (y2 : Int × Int × Int × Int × Int × Bool × Bool × Int × Int) => some ((y2, 0)))))) := by kernel_rfl
noncomputable def F56 (N : Nat) (x1 : Int) : Option ((Int × (Int × (Int × (Int × (Int × (Bool × (Bool × (Int × Int)))))))) × Int) :=
  bindS (F105 N x1) (fun (y0 : Int × Int × Int × Int × Int × Int) => bindS (F104 N y0) (fun (y1 : Int × Int × Int × Int × Int × Bool × Bool × Int × Int) => br (Decidable.decide (y1.1 = 0))
 (some (((0, (0, (0, (0, (0, (Bool.false, (Bool.false, (0, 0)))))))), 2)))
 (bindS (F92 N y1) (fun (y2 : Int × Int × Int × Int × Int × Bool × Bool × Int × Int) => some ((y2, 0))))))
theorem F56_eq (N : Nat) (x1 : Int) : g56' N x1 = F56 N x1 := by
  refine (e56 N x1).trans ?_
  simp only [F104_eq, F105_eq, F92_eq, F56]
noncomputable def g27' (N : Nat) (x1 : Int) (x2 : List Int) : Option ((Int × (Int × (Int × (Int × (Int × (Bool × (Bool × (Int × Int)))))))) × Int) := f27 N (x1, x2)
theorem e27 (N : Nat) (x1 : Int) (x2 : List Int) : g27' N x1 x2 =
  jp (fun (y0 : Bool) => br y0
 (some (((0, (0, (0, (0, (0, (Bool.false, (Bool.false, (0, 0)))))))), 4)))
 (chk (Decidable.decide (0 ≤ x1) && Decidable.decide (0 ≤ IntKind.u64.wrap (x1 + 4)) &&
    x1.toNat.ble (IntKind.u64.wrap (x1 + 4)).toNat &&
  (IntKind.u64.wrap (x1 + 4)).toNat.ble x2.length) (bindS (g55' N ((List.take ((IntKind.u64.wrap (x1 + 4)).toNat - x1.toNat) (List.drop (0 + x1.toNat) x2)))) (fun (y1 : Int) => bindS (g56' N ((IntKind.u32.wrap y1))) (fun (y2 : (Int × Int × Int × Int × Int × Bool × Bool × Int × Int) × Int) => br (!Decidable.decide (y2.2 = 0))
 (some (((0, (0, (0, (0, (0, (Bool.false, (Bool.false, (0, 0)))))))), 3)))
 (some ((y2.1, 0))))))))
 (fun K3 => br (!Decidable.decide (x1.tmod 4 = 0))
 (K3 Bool.true)
 (br (Decidable.decide ((↑x2.length : Int) < 4))
 (K3 Bool.true)
 (K3 (Decidable.decide (IntKind.u64.wrap (IntKind.i64.wrap ((↑x2.length : Int) - 4)) < x1))))) := by kernel_rfl
noncomputable def F27 (N : Nat) (x1 : Int) (x2 : List Int) : Option ((Int × (Int × (Int × (Int × (Int × (Bool × (Bool × (Int × Int)))))))) × Int) :=
  jp (fun (y0 : Bool) => br y0
 (some (((0, (0, (0, (0, (0, (Bool.false, (Bool.false, (0, 0)))))))), 4)))
 (chk (Decidable.decide (0 ≤ x1) && Decidable.decide (0 ≤ IntKind.u64.wrap (x1 + 4)) &&
    x1.toNat.ble (IntKind.u64.wrap (x1 + 4)).toNat &&
  (IntKind.u64.wrap (x1 + 4)).toNat.ble x2.length) (bindS (F55 N ((List.take ((IntKind.u64.wrap (x1 + 4)).toNat - x1.toNat) (List.drop (0 + x1.toNat) x2)))) (fun (y1 : Int) => bindS (F56 N ((IntKind.u32.wrap y1))) (fun (y2 : (Int × Int × Int × Int × Int × Bool × Bool × Int × Int) × Int) => br (!Decidable.decide (y2.2 = 0))
 (some (((0, (0, (0, (0, (0, (Bool.false, (Bool.false, (0, 0)))))))), 3)))
 (some ((y2.1, 0))))))))
 (fun K3 => br (!Decidable.decide (x1.tmod 4 = 0))
 (K3 Bool.true)
 (br (Decidable.decide ((↑x2.length : Int) < 4))
 (K3 Bool.true)
 (K3 (Decidable.decide (IntKind.u64.wrap (IntKind.i64.wrap ((↑x2.length : Int) - 4)) < x1)))))
theorem F27_eq (N : Nat) (x1 : Int) (x2 : List Int) : g27' N x1 x2 = F27 N x1 x2 := by
  refine (e27 N x1 x2).trans ?_
  simp only [F55_eq, F56_eq, F27]
noncomputable def g71' (N : Nat) (x1 : Int) : Option (Int) := f71 N (x1)
theorem e71 (N : Nat) (x1 : Int) : g71' N x1 =
  jp (fun (y0 : Bool) => br y0
 (some 1)
 (jp (fun (y1 : Bool) => br y1
 (some 2)
 (jp (fun (y2 : Bool) => br y2
 (some 4)
 (jp (fun (y3 : Bool) => br y3
 (some 8)
 (bindS (g72' N x1) (fun (y4 : Int) => br (!Decidable.decide (y4 = 12))
 (some 0)
 (br (Decidable.decide (x1 ≤ 66))
 (some 4)
 (some 8)))))
 (fun K5 => br (Decidable.decide (x1 = 14))
 (K5 Bool.true)
 (br (Decidable.decide (x1 = 21))
 (K5 Bool.true)
 (br (Decidable.decide (x1 = 55))
 (K5 Bool.true)
 (K5 (Decidable.decide (x1 = 57))))))))
 (fun K6 => br (Decidable.decide (x1 = 13))
 (K6 Bool.true)
 (br (Decidable.decide (x1 = 17))
 (K6 Bool.true)
 (br (Decidable.decide (x1 = 20))
 (K6 Bool.true)
 (br (Decidable.decide (x1 = 54))
 (K6 Bool.true)
 (K6 (Decidable.decide (x1 = 56)))))))))
 (fun K7 => br (Decidable.decide (x1 = 12))
 (K7 Bool.true)
 (br (Decidable.decide (x1 = 16))
 (K7 Bool.true)
 (K7 (Decidable.decide (x1 = 19)))))))
 (fun K8 => br (Decidable.decide (x1 = 11))
 (K8 Bool.true)
 (br (Decidable.decide (x1 = 15))
 (K8 Bool.true)
 (K8 (Decidable.decide (x1 = 18))))) := by kernel_rfl
noncomputable def F71 (N : Nat) (x1 : Int) : Option (Int) :=
  jp (fun (y0 : Bool) => br y0
 (some 1)
 (jp (fun (y1 : Bool) => br y1
 (some 2)
 (jp (fun (y2 : Bool) => br y2
 (some 4)
 (jp (fun (y3 : Bool) => br y3
 (some 8)
 (bindS (F72 N x1) (fun (y4 : Int) => br (!Decidable.decide (y4 = 12))
 (some 0)
 (br (Decidable.decide (x1 ≤ 66))
 (some 4)
 (some 8)))))
 (fun K5 => br (Decidable.decide (x1 = 14))
 (K5 Bool.true)
 (br (Decidable.decide (x1 = 21))
 (K5 Bool.true)
 (br (Decidable.decide (x1 = 55))
 (K5 Bool.true)
 (K5 (Decidable.decide (x1 = 57))))))))
 (fun K6 => br (Decidable.decide (x1 = 13))
 (K6 Bool.true)
 (br (Decidable.decide (x1 = 17))
 (K6 Bool.true)
 (br (Decidable.decide (x1 = 20))
 (K6 Bool.true)
 (br (Decidable.decide (x1 = 54))
 (K6 Bool.true)
 (K6 (Decidable.decide (x1 = 56)))))))))
 (fun K7 => br (Decidable.decide (x1 = 12))
 (K7 Bool.true)
 (br (Decidable.decide (x1 = 16))
 (K7 Bool.true)
 (K7 (Decidable.decide (x1 = 19)))))))
 (fun K8 => br (Decidable.decide (x1 = 11))
 (K8 Bool.true)
 (br (Decidable.decide (x1 = 15))
 (K8 Bool.true)
 (K8 (Decidable.decide (x1 = 18)))))
theorem F71_eq (N : Nat) (x1 : Int) : g71' N x1 = F71 N x1 := by
  refine (e71 N x1).trans ?_
  simp only [F72_eq, F71]
noncomputable def g123' (N : Nat) (x1 : Int) : Option (Bool) := f123 N (x1)
theorem e123 (N : Nat) (x1 : Int) : g123' N x1 =
  bindS (g71' N x1) (fun (y0 : Int) => some (Decidable.decide (0 < y0))) := by kernel_rfl
noncomputable def F123 (N : Nat) (x1 : Int) : Option (Bool) :=
  bindS (F71 N x1) (fun (y0 : Int) => some (Decidable.decide (0 < y0)))
theorem F123_eq (N : Nat) (x1 : Int) : g123' N x1 = F123 N x1 := by
  refine (e123 N x1).trans ?_
  simp only [F71_eq, F123]
noncomputable def g124' (N : Nat) (x1 : (Int × (Int × (Int × (Int × (Int × (Bool × (Bool × (Int × Int))))))))) (x2 : Int) : Option (Int) := f124 N (x1, x2)
theorem e124 (N : Nat) (x1 : (Int × (Int × (Int × (Int × (Int × (Bool × (Bool × (Int × Int))))))))) (x2 : Int) : g124' N x1 x2 =
  bindS (g72' N x1.1) (fun (y0 : Int) => jp (fun (y1 : Bool) => br y1
 (some (IntKind.u64.wrap (x2 + IntKind.u64.wrap x1.2.2.2.2.1)))
 (jp (fun (y2 : Bool) => br y2
 (some x2)
 (some 0))
 (fun K3 => br (Decidable.decide (y0 = 10))
 (K3 Bool.true)
 (br (Decidable.decide (y0 = 11))
 (K3 Bool.true)
 (K3 (Decidable.decide (y0 = 12)))))))
 (fun K4 => br (Decidable.decide (y0 = 4))
 (K4 Bool.true)
 (K4 (Decidable.decide (y0 = 5))))) := by kernel_rfl
noncomputable def F124 (N : Nat) (x1 : (Int × (Int × (Int × (Int × (Int × (Bool × (Bool × (Int × Int))))))))) (x2 : Int) : Option (Int) :=
  bindS (F72 N x1.1) (fun (y0 : Int) => jp (fun (y1 : Bool) => br y1
 (some (IntKind.u64.wrap (x2 + IntKind.u64.wrap x1.2.2.2.2.1)))
 (jp (fun (y2 : Bool) => br y2
 (some x2)
 (some 0))
 (fun K3 => br (Decidable.decide (y0 = 10))
 (K3 Bool.true)
 (br (Decidable.decide (y0 = 11))
 (K3 Bool.true)
 (K3 (Decidable.decide (y0 = 12)))))))
 (fun K4 => br (Decidable.decide (y0 = 4))
 (K4 Bool.true)
 (K4 (Decidable.decide (y0 = 5)))))
theorem F124_eq (N : Nat) (x1 : (Int × (Int × (Int × (Int × (Int × (Bool × (Bool × (Int × Int))))))))) (x2 : Int) : g124' N x1 x2 = F124 N x1 x2 := by
  refine (e124 N x1 x2).trans ?_
  simp only [F72_eq, F124]
noncomputable def g125' (N : Nat) (x1 : Int) (x2 : Int) (x3 : Int) : Option (Int) := f125 N (x1, x2, x3)
theorem e125 (N : Nat) (x1 : Int) (x2 : Int) (x3 : Int) : g125' N x1 x2 x3 =
  bindS (g71' N x1) (fun (y0 : Int) => br (Decidable.decide (IntKind.u64.wrap y0 = 0))
 (some 0)
 (chk (!Decidable.decide (IntKind.u64.wrap y0 = 0)) (br (!Decidable.decide (x2.tmod (IntKind.u64.wrap y0) = 0))
 (some 4)
 (jp (fun (y1 : Bool) => br y1
 (some 3)
 (some 0))
 (fun K2 => br (Decidable.decide (x3 < IntKind.i64.wrap (IntKind.u64.wrap y0)))
 (K2 Bool.true)
 (K2 (Decidable.decide (IntKind.u64.wrap (IntKind.u64.wrap x3 - IntKind.u64.wrap y0) < x2)))))))) := by kernel_rfl
noncomputable def F125 (N : Nat) (x1 : Int) (x2 : Int) (x3 : Int) : Option (Int) :=
  bindS (F71 N x1) (fun (y0 : Int) => br (Decidable.decide (IntKind.u64.wrap y0 = 0))
 (some 0)
 (chk (!Decidable.decide (IntKind.u64.wrap y0 = 0)) (br (!Decidable.decide (x2.tmod (IntKind.u64.wrap y0) = 0))
 (some 4)
 (jp (fun (y1 : Bool) => br y1
 (some 3)
 (some 0))
 (fun K2 => br (Decidable.decide (x3 < IntKind.i64.wrap (IntKind.u64.wrap y0)))
 (K2 Bool.true)
 (K2 (Decidable.decide (IntKind.u64.wrap (IntKind.u64.wrap x3 - IntKind.u64.wrap y0) < x2))))))))
theorem F125_eq (N : Nat) (x1 : Int) (x2 : Int) (x3 : Int) : g125' N x1 x2 x3 = F125 N x1 x2 x3 := by
  refine (e125 N x1 x2 x3).trans ?_
  simp only [F71_eq, F125]
noncomputable def g68' (N : Nat) (x1 : (Int × (List Int × Int))) (x2 : (Int × (Int × (Int × (Int × (Int × (Bool × (Bool × (Int × Int))))))))) (x3 : Int) : Option (Int × Int) := f68 N (x1, x2, x3)
theorem e68 (N : Nat) (x1 : (Int × (List Int × Int))) (x2 : (Int × (Int × (Int × (Int × (Int × (Bool × (Bool × (Int × Int))))))))) (x3 : Int) : g68' N x1 x2 x3 =
  br (Decidable.decide (x2.1 = 52))
 (some ((1, 0)))
 (br (Decidable.decide (x2.1 = 53))
 (some ((2, 0)))
 (bindS (g123' N x2.1) (fun (y0 : Bool) => br (!y0)
 (some ((0, 0)))
 (chk (Decidable.decide (0 ≤ x2.2.2.1) && Decidable.decide (x2.2.2.1 < (↑32 : Int))) (bindS (g124' N x2 (x1.2.1.getD x2.2.2.1.toNat 0)) (fun (y1 : Int) => bindS (g125' N x2.1 y1 x3) (fun (y2 : Int) => br (Decidable.decide (y2 = 4))
 (some ((5, y1)))
 (br (Decidable.decide (y2 = 3))
 (some ((6, y1)))
 (some ((0, y1))))))))))) := by kernel_rfl
noncomputable def F68 (N : Nat) (x1 : (Int × (List Int × Int))) (x2 : (Int × (Int × (Int × (Int × (Int × (Bool × (Bool × (Int × Int))))))))) (x3 : Int) : Option (Int × Int) :=
  br (Decidable.decide (x2.1 = 52))
 (some ((1, 0)))
 (br (Decidable.decide (x2.1 = 53))
 (some ((2, 0)))
 (bindS (F123 N x2.1) (fun (y0 : Bool) => br (!y0)
 (some ((0, 0)))
 (chk (Decidable.decide (0 ≤ x2.2.2.1) && Decidable.decide (x2.2.2.1 < (↑32 : Int))) (bindS (F124 N x2 (x1.2.1.getD x2.2.2.1.toNat 0)) (fun (y1 : Int) => bindS (F125 N x2.1 y1 x3) (fun (y2 : Int) => br (Decidable.decide (y2 = 4))
 (some ((5, y1)))
 (br (Decidable.decide (y2 = 3))
 (some ((6, y1)))
 (some ((0, y1)))))))))))
theorem F68_eq (N : Nat) (x1 : (Int × (List Int × Int))) (x2 : (Int × (Int × (Int × (Int × (Int × (Bool × (Bool × (Int × Int))))))))) (x3 : Int) : g68' N x1 x2 x3 = F68 N x1 x2 x3 := by
  refine (e68 N x1 x2 x3).trans ?_
  simp only [F123_eq, F124_eq, F125_eq, F68]
noncomputable def g69' (N : Nat) (x1 : Int) : Option (Bool) := f69 N (x1)
theorem e69 (N : Nat) (x1 : Int) : g69' N x1 =
  bindS (g72' N x1) (fun (y0 : Int) => jp (fun (y1 : Bool) => br y1
 (some Bool.true)
 (some Bool.false))
 (fun K2 => br (Decidable.decide (y0 = 4))
 (K2 Bool.true)
 (br (Decidable.decide (y0 = 10))
 (K2 Bool.true)
 (K2 (Decidable.decide (y0 = 12)))))) := by kernel_rfl
noncomputable def F69 (N : Nat) (x1 : Int) : Option (Bool) :=
  bindS (F72 N x1) (fun (y0 : Int) => jp (fun (y1 : Bool) => br y1
 (some Bool.true)
 (some Bool.false))
 (fun K2 => br (Decidable.decide (y0 = 4))
 (K2 Bool.true)
 (br (Decidable.decide (y0 = 10))
 (K2 Bool.true)
 (K2 (Decidable.decide (y0 = 12))))))
theorem F69_eq (N : Nat) (x1 : Int) : g69' N x1 = F69 N x1 := by
  refine (e69 N x1).trans ?_
  simp only [F72_eq, F69]
noncomputable def g73' (N : Nat) (x1 : Int) : Option (Bool) := f73 N (x1)
theorem e73 (N : Nat) (x1 : Int) : g73' N x1 =
  bindS (g72' N x1) (fun (y0 : Int) => jp (fun (y1 : Bool) => br y1
 (some Bool.true)
 (some Bool.false))
 (fun K2 => br (Decidable.decide (y0 = 5))
 (K2 Bool.true)
 (br (Decidable.decide (y0 = 11))
 (K2 Bool.true)
 (K2 (Decidable.decide (y0 = 12)))))) := by kernel_rfl
noncomputable def F73 (N : Nat) (x1 : Int) : Option (Bool) :=
  bindS (F72 N x1) (fun (y0 : Int) => jp (fun (y1 : Bool) => br y1
 (some Bool.true)
 (some Bool.false))
 (fun K2 => br (Decidable.decide (y0 = 5))
 (K2 Bool.true)
 (br (Decidable.decide (y0 = 11))
 (K2 Bool.true)
 (K2 (Decidable.decide (y0 = 12))))))
theorem F73_eq (N : Nat) (x1 : Int) : g73' N x1 = F73 N x1 := by
  refine (e73 N x1).trans ?_
  simp only [F72_eq, F73]
noncomputable def g126' (N : Nat) (x1 : Int) (x2 : Int) (x3 : Int) (x4 : Int) : Option (Int) := f126 N (x1, x2, x3, x4)
theorem e126 (N : Nat) (x1 : Int) (x2 : Int) (x3 : Int) (x4 : Int) : g126' N x1 x2 x3 x4 =
  bindS (g70' N x2 x4) (fun (y0 : Int) => bindS (g70' N x3 x4) (fun (y1 : Int) => br (Decidable.decide ((IntKind.i64.wrap (x1 - 58)).tmod 9 = 0))
 (some x3)
 (br (Decidable.decide ((IntKind.i64.wrap (x1 - 58)).tmod 9 = 1))
 (some (IntKind.u64.wrap (x2 + x3)))
 (br (Decidable.decide ((IntKind.i64.wrap (x1 - 58)).tmod 9 = 2))
 (some (Go.bits Go.BinOp.xor IntKind.u64 x2 x3))
 (br (Decidable.decide ((IntKind.i64.wrap (x1 - 58)).tmod 9 = 3))
 (some (Go.bits Go.BinOp.and IntKind.u64 x2 x3))
 (br (Decidable.decide ((IntKind.i64.wrap (x1 - 58)).tmod 9 = 4))
 (some (Go.bits Go.BinOp.or IntKind.u64 x2 x3))
 (br (Decidable.decide ((IntKind.i64.wrap (x1 - 58)).tmod 9 = 5))
 (some (IntKind.u64.wrap
  (if IntKind.i64.wrap x3 < IntKind.i64.wrap x2 then IntKind.i64.wrap x3 else IntKind.i64.wrap x2)))
 (br (Decidable.decide ((IntKind.i64.wrap (x1 - 58)).tmod 9 = 6))
 (some (IntKind.u64.wrap
  (if IntKind.i64.wrap x3 > IntKind.i64.wrap x2 then IntKind.i64.wrap x3 else IntKind.i64.wrap x2)))
 (br (Decidable.decide ((IntKind.i64.wrap (x1 - 58)).tmod 9 = 7))
 (some (if y1 < y0 then y1 else y0))
 (some (if y1 > y0 then y1 else y0))))))))))) := by kernel_rfl
noncomputable def F126 (N : Nat) (x1 : Int) (x2 : Int) (x3 : Int) (x4 : Int) : Option (Int) :=
  bindS (F70 N x2 x4) (fun (y0 : Int) => bindS (F70 N x3 x4) (fun (y1 : Int) => br (Decidable.decide ((IntKind.i64.wrap (x1 - 58)).tmod 9 = 0))
 (some x3)
 (br (Decidable.decide ((IntKind.i64.wrap (x1 - 58)).tmod 9 = 1))
 (some (IntKind.u64.wrap (x2 + x3)))
 (br (Decidable.decide ((IntKind.i64.wrap (x1 - 58)).tmod 9 = 2))
 (some (Go.bits Go.BinOp.xor IntKind.u64 x2 x3))
 (br (Decidable.decide ((IntKind.i64.wrap (x1 - 58)).tmod 9 = 3))
 (some (Go.bits Go.BinOp.and IntKind.u64 x2 x3))
 (br (Decidable.decide ((IntKind.i64.wrap (x1 - 58)).tmod 9 = 4))
 (some (Go.bits Go.BinOp.or IntKind.u64 x2 x3))
 (br (Decidable.decide ((IntKind.i64.wrap (x1 - 58)).tmod 9 = 5))
 (some (IntKind.u64.wrap
  (if IntKind.i64.wrap x3 < IntKind.i64.wrap x2 then IntKind.i64.wrap x3 else IntKind.i64.wrap x2)))
 (br (Decidable.decide ((IntKind.i64.wrap (x1 - 58)).tmod 9 = 6))
 (some (IntKind.u64.wrap
  (if IntKind.i64.wrap x3 > IntKind.i64.wrap x2 then IntKind.i64.wrap x3 else IntKind.i64.wrap x2)))
 (br (Decidable.decide ((IntKind.i64.wrap (x1 - 58)).tmod 9 = 7))
 (some (if y1 < y0 then y1 else y0))
 (some (if y1 > y0 then y1 else y0)))))))))))
theorem F126_eq (N : Nat) (x1 : Int) (x2 : Int) (x3 : Int) (x4 : Int) : g126' N x1 x2 x3 x4 = F126 N x1 x2 x3 x4 := by
  refine (e126 N x1 x2 x3 x4).trans ?_
  simp only [F70_eq, F126]
noncomputable def g74' (N : Nat) (x1 : Int) (x2 : Int) (x3 : Int) : Option (Int) := f74 N (x1, x2, x3)
theorem e74 (N : Nat) (x1 : Int) (x2 : Int) (x3 : Int) : g74' N x1 x2 x3 =
  bindS (g71' N x1) (fun (y0 : Int) => bindS (g72' N x1) (fun (y1 : Int) => jp (fun (y2 : Bool) => br y2
 (bindS (g70' N x3 (IntKind.i64.wrap (8 * y0))) (fun (y3 : Int) => some y3))
 (br (Decidable.decide (y1 = 12))
 (bindS (g127' N x2 (IntKind.i64.wrap (8 * y0))) (fun (y4 : Int) => bindS (g127' N x3 (IntKind.i64.wrap (8 * y0))) (fun (y5 : Int) => bindS (g126' N x1 y4 y5 (IntKind.i64.wrap (8 * y0))) (fun (y6 : Int) => bindS (g70' N y6 (IntKind.i64.wrap (8 * y0))) (fun (y7 : Int) => some y7)))))
 (some 0)))
 (fun K8 => br (Decidable.decide (y1 = 5))
 (K8 Bool.true)
 (K8 (Decidable.decide (y1 = 11)))))) := by kernel_rfl
noncomputable def F74 (N : Nat) (x1 : Int) (x2 : Int) (x3 : Int) : Option (Int) :=
  bindS (F71 N x1) (fun (y0 : Int) => bindS (F72 N x1) (fun (y1 : Int) => jp (fun (y2 : Bool) => br y2
 (bindS (F70 N x3 (IntKind.i64.wrap (8 * y0))) (fun (y3 : Int) => some y3))
 (br (Decidable.decide (y1 = 12))
 (bindS (F127 N x2 (IntKind.i64.wrap (8 * y0))) (fun (y4 : Int) => bindS (F127 N x3 (IntKind.i64.wrap (8 * y0))) (fun (y5 : Int) => bindS (F126 N x1 y4 y5 (IntKind.i64.wrap (8 * y0))) (fun (y6 : Int) => bindS (F70 N y6 (IntKind.i64.wrap (8 * y0))) (fun (y7 : Int) => some y7)))))
 (some 0)))
 (fun K8 => br (Decidable.decide (y1 = 5))
 (K8 Bool.true)
 (K8 (Decidable.decide (y1 = 11))))))
theorem F74_eq (N : Nat) (x1 : Int) (x2 : Int) (x3 : Int) : g74' N x1 x2 x3 = F74 N x1 x2 x3 := by
  refine (e74 N x1 x2 x3).trans ?_
  simp only [F126_eq, F127_eq, F70_eq, F71_eq, F72_eq, F74]
noncomputable def g128' (N : Nat) (x1 : (Int × (Int × (Int × (Int × (Int × (Bool × (Bool × (Int × Int))))))))) (x2 : Int) (x3 : Int) : Option (Bool) := f128 N (x1, x2, x3)
theorem e128 (N : Nat) (x1 : (Int × (Int × (Int × (Int × (Int × (Bool × (Bool × (Int × Int))))))))) (x2 : Int) (x3 : Int) : g128' N x1 x2 x3 =
  br (Decidable.decide (x1.1 = 5))
 (some (Decidable.decide (x2 = x3)))
 (br (Decidable.decide (x1.1 = 6))
 (some (!Decidable.decide (x2 = x3)))
 (br (Decidable.decide (x1.1 = 7))
 (some (Decidable.decide (IntKind.i64.wrap x2 < IntKind.i64.wrap x3)))
 (br (Decidable.decide (x1.1 = 8))
 (some (Decidable.decide (IntKind.i64.wrap x3 ≤ IntKind.i64.wrap x2)))
 (br (Decidable.decide (x1.1 = 9))
 (some (Decidable.decide (x2 < x3)))
 (br (Decidable.decide (x1.1 = 10))
 (some (Decidable.decide (x3 ≤ x2)))
 (some Bool.false)))))) := by kernel_rfl
noncomputable def F128 (N : Nat) (x1 : (Int × (Int × (Int × (Int × (Int × (Bool × (Bool × (Int × Int))))))))) (x2 : Int) (x3 : Int) : Option (Bool) :=
  br (Decidable.decide (x1.1 = 5))
 (some (Decidable.decide (x2 = x3)))
 (br (Decidable.decide (x1.1 = 6))
 (some (!Decidable.decide (x2 = x3)))
 (br (Decidable.decide (x1.1 = 7))
 (some (Decidable.decide (IntKind.i64.wrap x2 < IntKind.i64.wrap x3)))
 (br (Decidable.decide (x1.1 = 8))
 (some (Decidable.decide (IntKind.i64.wrap x3 ≤ IntKind.i64.wrap x2)))
 (br (Decidable.decide (x1.1 = 9))
 (some (Decidable.decide (x2 < x3)))
 (br (Decidable.decide (x1.1 = 10))
 (some (Decidable.decide (x3 ≤ x2)))
 (some Bool.false))))))
theorem F128_eq (N : Nat) (x1 : (Int × (Int × (Int × (Int × (Int × (Bool × (Bool × (Int × Int))))))))) (x2 : Int) (x3 : Int) : g128' N x1 x2 x3 = F128 N x1 x2 x3 := by
  refine (e128 N x1 x2 x3).trans ?_
  rfl
noncomputable def g75' (N : Nat) (x1 : (Int × (Int × (Int × (Int × (Int × (Bool × (Bool × (Int × Int))))))))) (x2 : Int) (x3 : Int) (x4 : Int) : Option (Int) := f75 N (x1, x2, x3, x4)
theorem e75 (N : Nat) (x1 : (Int × (Int × (Int × (Int × (Int × (Bool × (Bool × (Int × Int))))))))) (x2 : Int) (x3 : Int) (x4 : Int) : g75' N x1 x2 x3 x4 =
  jp (fun (y0 : Bool) => br y0
 (some (IntKind.u64.wrap (x2 + IntKind.u64.wrap x1.2.2.2.2.1)))
 (br (Decidable.decide (x1.1 = 4))
 (some (Go.bits Go.BinOp.andNot IntKind.u64 (IntKind.u64.wrap (x3 + IntKind.u64.wrap x1.2.2.2.2.1)) 1))
 (some (IntKind.u64.wrap (x2 + 4)))))
 (fun K1 => br (Decidable.decide (x1.1 = 3))
 (K1 Bool.true)
 (bindS (g128' N x1 x3 x4) (fun (y2 : Bool) => K1 y2))) := by kernel_rfl
noncomputable def F75 (N : Nat) (x1 : (Int × (Int × (Int × (Int × (Int × (Bool × (Bool × (Int × Int))))))))) (x2 : Int) (x3 : Int) (x4 : Int) : Option (Int) :=
  jp (fun (y0 : Bool) => br y0
 (some (IntKind.u64.wrap (x2 + IntKind.u64.wrap x1.2.2.2.2.1)))
 (br (Decidable.decide (x1.1 = 4))
 (some (Go.bits Go.BinOp.andNot IntKind.u64 (IntKind.u64.wrap (x3 + IntKind.u64.wrap x1.2.2.2.2.1)) 1))
 (some (IntKind.u64.wrap (x2 + 4)))))
 (fun K1 => br (Decidable.decide (x1.1 = 3))
 (K1 Bool.true)
 (bindS (F128 N x1 x3 x4) (fun (y2 : Bool) => K1 y2)))
theorem F75_eq (N : Nat) (x1 : (Int × (Int × (Int × (Int × (Int × (Bool × (Bool × (Int × Int))))))))) (x2 : Int) (x3 : Int) (x4 : Int) : g75' N x1 x2 x3 x4 = F75 N x1 x2 x3 x4 := by
  refine (e75 N x1 x2 x3 x4).trans ?_
  simp only [F128_eq, F75]
noncomputable def g130' (N : Nat) (x1 : Int) (x2 : Int) : Option (Int) := f130 N (x1, x2)
theorem e130 (N : Nat) (x1 : Int) (x2 : Int) : g130' N x1 x2 =
  bindS (g71' N x1) (fun (y0 : Int) => bindS (g72' N x1) (fun (y1 : Int) => jp (fun (y2 : PUnit) => bindS (g127' N x2 (IntKind.i64.wrap (8 * y0))) (fun (y3 : Int) => some y3))
 (fun K4 => br (Decidable.decide (y1 = 4))
 (br (Decidable.decide (15 ≤ x1))
 (bindS (g70' N x2 (IntKind.i64.wrap (8 * y0))) (fun (y5 : Int) => some y5))
 (K4 ()))
 (jp (fun (y6 : Bool) => br y6
 (K4 ())
 (some 0))
 (fun K7 => br (Decidable.decide (y1 = 10))
 (K7 Bool.true)
 (K7 (Decidable.decide (y1 = 12)))))))) := by kernel_rfl
noncomputable def F130 (N : Nat) (x1 : Int) (x2 : Int) : Option (Int) :=
  bindS (F71 N x1) (fun (y0 : Int) => bindS (F72 N x1) (fun (y1 : Int) => jp (fun (y2 : PUnit) => bindS (F127 N x2 (IntKind.i64.wrap (8 * y0))) (fun (y3 : Int) => some y3))
 (fun K4 => br (Decidable.decide (y1 = 4))
 (br (Decidable.decide (15 ≤ x1))
 (bindS (F70 N x2 (IntKind.i64.wrap (8 * y0))) (fun (y5 : Int) => some y5))
 (K4 ()))
 (jp (fun (y6 : Bool) => br y6
 (K4 ())
 (some 0))
 (fun K7 => br (Decidable.decide (y1 = 10))
 (K7 Bool.true)
 (K7 (Decidable.decide (y1 = 12))))))))
theorem F130_eq (N : Nat) (x1 : Int) (x2 : Int) : g130' N x1 x2 = F130 N x1 x2 := by
  refine (e130 N x1 x2).trans ?_
  simp only [F127_eq, F70_eq, F71_eq, F72_eq, F130]
noncomputable def g180' (N : Nat)  : Option (List Int) := f180 N ()
theorem e180 (N : Nat)  : g180' N  =
  some ([35, 38, 39, 40, 43, 44, 37, 41, 42, 45, 47, 48, 49]) := by kernel_rfl
noncomputable def F180 (N : Nat)  : Option (List Int) :=
  some ([35, 38, 39, 40, 43, 44, 37, 41, 42, 45, 47, 48, 49])
theorem F180_eq (N : Nat)  : g180' N  = F180 N  := by
  refine (e180 N ).trans ?_
  rfl
noncomputable def g210' (N : Nat) (x1 : Bool) : Option (Int) := f210 N (x1)
theorem e210 (N : Nat) (x1 : Bool) : g210' N x1 =
  br x1
 (some 1)
 (some 0) := by kernel_rfl
noncomputable def F210 (N : Nat) (x1 : Bool) : Option (Int) :=
  br x1
 (some 1)
 (some 0)
theorem F210_eq (N : Nat) (x1 : Bool) : g210' N x1 = F210 N x1 := by
  refine (e210 N x1).trans ?_
  rfl
noncomputable def g211' (N : Nat) (x1 : Int) : Option (Int) := f211 N (x1)
theorem e211 (N : Nat) (x1 : Int) : g211' N x1 =
  bindS (g127' N x1 32) (fun (y0 : Int) => some y0) := by kernel_rfl
noncomputable def F211 (N : Nat) (x1 : Int) : Option (Int) :=
  bindS (F127 N x1 32) (fun (y0 : Int) => some y0)
theorem F211_eq (N : Nat) (x1 : Int) : g211' N x1 = F211 N x1 := by
  refine (e211 N x1).trans ?_
  simp only [F127_eq, F211]
noncomputable def g179' (N : Nat) (x1 : Int) (x2 : Int) (x3 : Int) : Option (Int) := f179 N (x1, x2, x3)
theorem e179 (N : Nat) (x1 : Int) (x2 : Int) (x3 : Int) : g179' N x1 x2 x3 =
  br (Decidable.decide (x1 = 35))
 (some (IntKind.u64.wrap (x2 + x3)))
 (br (Decidable.decide (x1 = 36))
 (some (IntKind.u64.wrap (x2 - x3)))
 (br (Decidable.decide (x1 = 37))
 (some (IntKind.u64.wrap (x2 * 2 ^ Min.min (Go.bits Go.BinOp.and IntKind.u64 x3 63).toNat IntKind.u64.bits)))
 (br (Decidable.decide (x1 = 38))
 (bindS (g210' N ((Decidable.decide (IntKind.i64.wrap x2 < IntKind.i64.wrap x3)))) (fun (y0 : Int) => some y0))
 (br (Decidable.decide (x1 = 39))
 (bindS (g210' N ((Decidable.decide (x2 < x3)))) (fun (y1 : Int) => some y1))
 (br (Decidable.decide (x1 = 40))
 (some (Go.bits Go.BinOp.xor IntKind.u64 x2 x3))
 (br (Decidable.decide (x1 = 41))
 (some (x2.fdiv (2 ^ Min.min (Go.bits Go.BinOp.and IntKind.u64 x3 63).toNat IntKind.u64.bits)))
 (br (Decidable.decide (x1 = 42))
 (some (IntKind.u64.wrap
  ((IntKind.i64.wrap x2).fdiv (2 ^ Min.min (Go.bits Go.BinOp.and IntKind.u64 x3 63).toNat IntKind.i64.bits))))
 (br (Decidable.decide (x1 = 43))
 (some (Go.bits Go.BinOp.or IntKind.u64 x2 x3))
 (br (Decidable.decide (x1 = 44))
 (some (Go.bits Go.BinOp.and IntKind.u64 x2 x3))
 (br (Decidable.decide (x1 = 45))
 (bindS (g211' N ((IntKind.u64.wrap (x2 + x3)))) (fun (y2 : Int) => some y2))
 (br (Decidable.decide (x1 = 46))
 (bindS (g211' N ((IntKind.u64.wrap (x2 - x3)))) (fun (y3 : Int) => some y3))
 (br (Decidable.decide (x1 = 47))
 (bindS (g211' N ((IntKind.u64.wrap (x2 * 2 ^ Min.min (Go.bits Go.BinOp.and IntKind.u64 x3 31).toNat IntKind.u64.bits)))) (fun (y4 : Int) => some y4))
 (br (Decidable.decide (x1 = 48))
 (bindS (g70' N x2 32) (fun (y5 : Int) => bindS (g211' N ((y5.fdiv (2 ^ Min.min (Go.bits Go.BinOp.and IntKind.u64 x3 31).toNat IntKind.u64.bits)))) (fun (y6 : Int) => some y6)))
 (br (Decidable.decide (x1 = 49))
 (bindS (g211' N x2) (fun (y7 : Int) => some (IntKind.u64.wrap
  ((IntKind.i64.wrap y7).fdiv (2 ^ Min.min (Go.bits Go.BinOp.and IntKind.u64 x3 31).toNat IntKind.i64.bits)))))
 (some 0))))))))))))))) := by kernel_rfl
noncomputable def F179 (N : Nat) (x1 : Int) (x2 : Int) (x3 : Int) : Option (Int) :=
  br (Decidable.decide (x1 = 35))
 (some (IntKind.u64.wrap (x2 + x3)))
 (br (Decidable.decide (x1 = 36))
 (some (IntKind.u64.wrap (x2 - x3)))
 (br (Decidable.decide (x1 = 37))
 (some (IntKind.u64.wrap (x2 * 2 ^ Min.min (Go.bits Go.BinOp.and IntKind.u64 x3 63).toNat IntKind.u64.bits)))
 (br (Decidable.decide (x1 = 38))
 (bindS (F210 N ((Decidable.decide (IntKind.i64.wrap x2 < IntKind.i64.wrap x3)))) (fun (y0 : Int) => some y0))
 (br (Decidable.decide (x1 = 39))
 (bindS (F210 N ((Decidable.decide (x2 < x3)))) (fun (y1 : Int) => some y1))
 (br (Decidable.decide (x1 = 40))
 (some (Go.bits Go.BinOp.xor IntKind.u64 x2 x3))
 (br (Decidable.decide (x1 = 41))
 (some (x2.fdiv (2 ^ Min.min (Go.bits Go.BinOp.and IntKind.u64 x3 63).toNat IntKind.u64.bits)))
 (br (Decidable.decide (x1 = 42))
 (some (IntKind.u64.wrap
  ((IntKind.i64.wrap x2).fdiv (2 ^ Min.min (Go.bits Go.BinOp.and IntKind.u64 x3 63).toNat IntKind.i64.bits))))
 (br (Decidable.decide (x1 = 43))
 (some (Go.bits Go.BinOp.or IntKind.u64 x2 x3))
 (br (Decidable.decide (x1 = 44))
 (some (Go.bits Go.BinOp.and IntKind.u64 x2 x3))
 (br (Decidable.decide (x1 = 45))
 (bindS (F211 N ((IntKind.u64.wrap (x2 + x3)))) (fun (y2 : Int) => some y2))
 (br (Decidable.decide (x1 = 46))
 (bindS (F211 N ((IntKind.u64.wrap (x2 - x3)))) (fun (y3 : Int) => some y3))
 (br (Decidable.decide (x1 = 47))
 (bindS (F211 N ((IntKind.u64.wrap (x2 * 2 ^ Min.min (Go.bits Go.BinOp.and IntKind.u64 x3 31).toNat IntKind.u64.bits)))) (fun (y4 : Int) => some y4))
 (br (Decidable.decide (x1 = 48))
 (bindS (F70 N x2 32) (fun (y5 : Int) => bindS (F211 N ((y5.fdiv (2 ^ Min.min (Go.bits Go.BinOp.and IntKind.u64 x3 31).toNat IntKind.u64.bits)))) (fun (y6 : Int) => some y6)))
 (br (Decidable.decide (x1 = 49))
 (bindS (F211 N x2) (fun (y7 : Int) => some (IntKind.u64.wrap
  ((IntKind.i64.wrap y7).fdiv (2 ^ Min.min (Go.bits Go.BinOp.and IntKind.u64 x3 31).toNat IntKind.i64.bits)))))
 (some 0)))))))))))))))
theorem F179_eq (N : Nat) (x1 : Int) (x2 : Int) (x3 : Int) : g179' N x1 x2 x3 = F179 N x1 x2 x3 := by
  refine (e179 N x1 x2 x3).trans ?_
  simp only [F210_eq, F211_eq, F70_eq, F179]
noncomputable def g131' (N : Nat) (x1 : (Int × (Int × (Int × (Int × (Int × (Bool × (Bool × (Int × Int))))))))) (x2 : Int) (x3 : Int) (x4 : Int) : Option (Int) := f131 N (x1, x2, x3, x4)
theorem e131 (N : Nat) (x1 : (Int × (Int × (Int × (Int × (Int × (Bool × (Bool × (Int × Int))))))))) (x2 : Int) (x3 : Int) (x4 : Int) : g131' N x1 x2 x3 x4 =
  bindS (g72' N x1.1) (fun (y0 : Int) => br (Decidable.decide (y0 = 1))
 (br (Decidable.decide (x1.1 = 1))
 (some (IntKind.u64.wrap x1.2.2.2.2.1))
 (some (IntKind.u64.wrap (x2 + IntKind.u64.wrap x1.2.2.2.2.1))))
 (br (Decidable.decide (y0 = 2))
 (some (IntKind.u64.wrap (x2 + 4)))
 (br (Decidable.decide (y0 = 6))
 (bindS (g180' N ) (fun (y1 : List Int) => chk (Decidable.decide (0 ≤ IntKind.i64.wrap (x1.1 - 22)) &&
  Decidable.decide (IntKind.i64.wrap (x1.1 - 22) < (↑13 : Int))) (bindS (g179' N (y1.getD (IntKind.i64.wrap (x1.1 - 22)).toNat 0) x3 (IntKind.u64.wrap x1.2.2.2.2.1)) (fun (y2 : Int) => some y2))))
 (br (Decidable.decide (y0 = 7))
 (bindS (g179' N x1.1 x3 x4) (fun (y3 : Int) => some y3))
 (some 0))))) := by kernel_rfl
noncomputable def F131 (N : Nat) (x1 : (Int × (Int × (Int × (Int × (Int × (Bool × (Bool × (Int × Int))))))))) (x2 : Int) (x3 : Int) (x4 : Int) : Option (Int) :=
  bindS (F72 N x1.1) (fun (y0 : Int) => br (Decidable.decide (y0 = 1))
 (br (Decidable.decide (x1.1 = 1))
 (some (IntKind.u64.wrap x1.2.2.2.2.1))
 (some (IntKind.u64.wrap (x2 + IntKind.u64.wrap x1.2.2.2.2.1))))
 (br (Decidable.decide (y0 = 2))
 (some (IntKind.u64.wrap (x2 + 4)))
 (br (Decidable.decide (y0 = 6))
 (bindS (F180 N ) (fun (y1 : List Int) => chk (Decidable.decide (0 ≤ IntKind.i64.wrap (x1.1 - 22)) &&
  Decidable.decide (IntKind.i64.wrap (x1.1 - 22) < (↑13 : Int))) (bindS (F179 N (y1.getD (IntKind.i64.wrap (x1.1 - 22)).toNat 0) x3 (IntKind.u64.wrap x1.2.2.2.2.1)) (fun (y2 : Int) => some y2))))
 (br (Decidable.decide (y0 = 7))
 (bindS (F179 N x1.1 x3 x4) (fun (y3 : Int) => some y3))
 (some 0)))))
theorem F131_eq (N : Nat) (x1 : (Int × (Int × (Int × (Int × (Int × (Bool × (Bool × (Int × Int))))))))) (x2 : Int) (x3 : Int) (x4 : Int) : g131' N x1 x2 x3 x4 = F131 N x1 x2 x3 x4 := by
  refine (e131 N x1 x2 x3 x4).trans ?_
  simp only [F179_eq, F180_eq, F72_eq, F131]
noncomputable def g77' (N : Nat) (x1 : (Int × (List Int × Int))) (x2 : (Int × (Int × (Int × (Int × (Int × (Bool × (Bool × (Int × Int))))))))) (x3 : Int) (x4 : Bool) : Option (Int) := f77 N (x1, x2, x3, x4)
theorem e77 (N : Nat) (x1 : (Int × (List Int × Int))) (x2 : (Int × (Int × (Int × (Int × (Int × (Bool × (Bool × (Int × Int))))))))) (x3 : Int) (x4 : Bool) : g77' N x1 x2 x3 x4 =
  bindS (g69' N x2.1) (fun (y0 : Bool) => br y0
 (bindS (g130' N x2.1 x3) (fun (y1 : Int) => some y1))
 (bindS (g72' N x2.1) (fun (y2 : Int) => br (!Decidable.decide (y2 = 11))
 (chk (Decidable.decide (0 ≤ x2.2.2.1) && Decidable.decide (x2.2.2.1 < (↑32 : Int))) (chk (Decidable.decide (0 ≤ x2.2.2.2.1) && Decidable.decide (x2.2.2.2.1 < (↑32 : Int))) (bindS (g131' N x2 x1.1 (x1.2.1.getD x2.2.2.1.toNat 0) (x1.2.1.getD x2.2.2.2.1.toNat 0)) (fun (y3 : Int) => some y3))))
 (br x4
 (some 1)
 (some 0))))) := by kernel_rfl
noncomputable def F77 (N : Nat) (x1 : (Int × (List Int × Int))) (x2 : (Int × (Int × (Int × (Int × (Int × (Bool × (Bool × (Int × Int))))))))) (x3 : Int) (x4 : Bool) : Option (Int) :=
  bindS (F69 N x2.1) (fun (y0 : Bool) => br y0
 (bindS (F130 N x2.1 x3) (fun (y1 : Int) => some y1))
 (bindS (F72 N x2.1) (fun (y2 : Int) => br (!Decidable.decide (y2 = 11))
 (chk (Decidable.decide (0 ≤ x2.2.2.1) && Decidable.decide (x2.2.2.1 < (↑32 : Int))) (chk (Decidable.decide (0 ≤ x2.2.2.2.1) && Decidable.decide (x2.2.2.2.1 < (↑32 : Int))) (bindS (F131 N x2 x1.1 (x1.2.1.getD x2.2.2.1.toNat 0) (x1.2.1.getD x2.2.2.2.1.toNat 0)) (fun (y3 : Int) => some y3))))
 (br x4
 (some 1)
 (some 0)))))
theorem F77_eq (N : Nat) (x1 : (Int × (List Int × Int))) (x2 : (Int × (Int × (Int × (Int × (Int × (Bool × (Bool × (Int × Int))))))))) (x3 : Int) (x4 : Bool) : g77' N x1 x2 x3 x4 = F77 N x1 x2 x3 x4 := by
  refine (e77 N x1 x2 x3 x4).trans ?_
  simp only [F130_eq, F131_eq, F69_eq, F72_eq, F77]
noncomputable def g29' (N : Nat) (x1 : (Int × (List Int × Int))) (x2 : Int) (x3 : Bool) (x4 : List Int) : Option ((Int × (List Int × Int)) × (Int × ((Int × (Int × (Int × (Int × (Int × (Bool × (Bool × (Int × Int)))))))) × (Int × (Int × (Int × (Int × (Int × Bool)))))))) := f29 N (x1, x2, x3, x4)
theorem e29 (N : Nat) (x1 : (Int × (List Int × Int))) (x2 : Int) (x3 : Bool) (x4 : List Int) : g29' N x1 x2 x3 x4 =
  br (!Decidable.decide (x1.2.2 = 0))
 (some (((x1.1, (setD 0 x1.2.1 0 0, x1.2.2)), (0, ((0, (0, (0, (0, (0, (Bool.false, (Bool.false, (0, 0)))))))), (0, (0, (0, (0, (0, Bool.false))))))))))
 (bindS (g27' N x1.1 x4) (fun (y0 : (Int × Int × Int × Int × Int × Bool × Bool × Int × Int) × Int) => jp (fun (y1 : Int × (Int × Int × Int × Int × Int × Bool × Bool × Int × Int) × Int × Int × Int × Int × Int × Bool) => br (!Decidable.decide (y1.2.2.1 = 0))
 (some (((x1.1, (setD 0 x1.2.1 0 0, y1.2.2.1)), y1)))
 (jp (fun (y2 : Int × (Int × Int × Int × Int × Int × Bool × Bool × Int × Int) × Int × Int × Int × Int × Int × Bool) => jp (fun (y3 : Int × (Int × Int × Int × Int × Int × Bool × Bool × Int × Int) × Int × Int × Int × Int × Int × Bool) => jp (fun (y4 : Int × (Int × Int × Int × Int × Int × Bool × Bool × Int × Int) × Int × Int × Int × Int × Int × Bool) => chk (Decidable.decide (0 ≤ y0.1.2.2.1) && Decidable.decide (y0.1.2.2.1 < (↑32 : Int))) (chk (Decidable.decide (0 ≤ y0.1.2.2.2.1) && Decidable.decide (y0.1.2.2.2.1 < (↑32 : Int))) (bindS (g75' N y0.1 x1.1 ((setD 0 x1.2.1 0 0).getD y0.1.2.2.1.toNat 0) ((setD 0 x1.2.1 0 0).getD y0.1.2.2.2.1.toNat 0)) (fun (y5 : Int) => jp (fun (y6 : (Int × List Int × Int) ×
  Int × (Int × Int × Int × Int × Int × Bool × Bool × Int × Int) × Int × Int × Int × Int × Int × Bool) => some (((y5, y6.1.2), y6.2)))
 (fun K7 => bindS (g76' N y0.1) (fun (y8 : Int) => br (Decidable.decide (0 < y8))
 (bindS (g77' N ((x1.1, setD 0 x1.2.1 0 0, x1.2.2)) y0.1 x2 x3) (fun (y9 : Int) => chk (Decidable.decide (0 ≤ y8) && Decidable.decide (y8 < (↑32 : Int))) (K7 (((x1.1, (setD 0 (setD 0 x1.2.1 0 0) y8.toNat y9, x1.2.2)), (y4.1, (y4.2.1, (y4.2.2.1, (y9, y4.2.2.2.2)))))))))
 (K7 (((x1.1, (setD 0 x1.2.1 0 0, x1.2.2)), y4)))))))))
 (fun K10 => jp (fun (y11 : Bool) => br y11
 (chk (Decidable.decide (0 ≤ y0.1.2.2.2.1) && Decidable.decide (y0.1.2.2.2.1 < (↑32 : Int))) (bindS (g74' N y0.1.1 x2 ((setD 0 x1.2.1 0 0).getD y0.1.2.2.2.1.toNat 0)) (fun (y12 : Int) => K10 ((y3.1, (y3.2.1, (y3.2.2.1, (y3.2.2.2.1, (y3.2.2.2.2.1, (y3.2.2.2.2.2.1, (y12, y3.2.2.2.2.2.2.2)))))))))))
 (K10 y3))
 (fun K13 => bindS (g73' N y0.1.1) (fun (y14 : Bool) => br y14
 (K13 (!y3.2.2.2.2.2.2.2))
 (K13 Bool.false)))))
 (fun K15 => br x3
 (bindS (g72' N y0.1.1) (fun (y16 : Int) => K15 ((y2.1, (y2.2.1, (y2.2.2.1, (y2.2.2.2.1, (y2.2.2.2.2.1, (y2.2.2.2.2.2.1, (y2.2.2.2.2.2.2.1, Decidable.decide (y16 = 11)))))))))))
 (K15 ((y2.1, (y2.2.1, (y2.2.2.1, (y2.2.2.2.1, (y2.2.2.2.2.1, (y2.2.2.2.2.2.1, (y2.2.2.2.2.2.2.1, Bool.false)))))))))))
 (fun K17 => bindS (g69' N y0.1.1) (fun (y18 : Bool) => br y18
 (bindS (g71' N y0.1.1) (fun (y19 : Int) => bindS (g70' N x2 (IntKind.i64.wrap (8 * y19))) (fun (y20 : Int) => K17 ((y1.1, (y1.2.1, (y1.2.2.1, (y1.2.2.2.1, (y1.2.2.2.2.1, (y20, y1.2.2.2.2.2.2))))))))))
 (K17 y1)))))
 (fun K21 => br (Decidable.decide (y0.2 = 0))
 (bindS (g68' N ((x1.1, setD 0 x1.2.1 0 0, x1.2.2)) y0.1 ((↑x4.length : Int))) (fun (y22 : Int × Int) => K21 ((x1.1, (y0.1, (y22.1, (0, (y22.2, (0, (0, Bool.false))))))))))
 (K21 ((x1.1, (y0.1, (y0.2, (0, (0, (0, (0, Bool.false)))))))))))) := by kernel_rfl
noncomputable def F29 (N : Nat) (x1 : (Int × (List Int × Int))) (x2 : Int) (x3 : Bool) (x4 : List Int) : Option ((Int × (List Int × Int)) × (Int × ((Int × (Int × (Int × (Int × (Int × (Bool × (Bool × (Int × Int)))))))) × (Int × (Int × (Int × (Int × (Int × Bool)))))))) :=
  br (!Decidable.decide (x1.2.2 = 0))
 (some (((x1.1, (setD 0 x1.2.1 0 0, x1.2.2)), (0, ((0, (0, (0, (0, (0, (Bool.false, (Bool.false, (0, 0)))))))), (0, (0, (0, (0, (0, Bool.false))))))))))
 (bindS (F27 N x1.1 x4) (fun (y0 : (Int × Int × Int × Int × Int × Bool × Bool × Int × Int) × Int) => jp (fun (y1 : Int × (Int × Int × Int × Int × Int × Bool × Bool × Int × Int) × Int × Int × Int × Int × Int × Bool) => br (!Decidable.decide (y1.2.2.1 = 0))
 (some (((x1.1, (setD 0 x1.2.1 0 0, y1.2.2.1)), y1)))
 (jp (fun (y2 : Int × (Int × Int × Int × Int × Int × Bool × Bool × Int × Int) × Int × Int × Int × Int × Int × Bool) => jp (fun (y3 : Int × (Int × Int × Int × Int × Int × Bool × Bool × Int × Int) × Int × Int × Int × Int × Int × Bool) => jp (fun (y4 : Int × (Int × Int × Int × Int × Int × Bool × Bool × Int × Int) × Int × Int × Int × Int × Int × Bool) => chk (Decidable.decide (0 ≤ y0.1.2.2.1) && Decidable.decide (y0.1.2.2.1 < (↑32 : Int))) (chk (Decidable.decide (0 ≤ y0.1.2.2.2.1) && Decidable.decide (y0.1.2.2.2.1 < (↑32 : Int))) (bindS (F75 N y0.1 x1.1 ((setD 0 x1.2.1 0 0).getD y0.1.2.2.1.toNat 0) ((setD 0 x1.2.1 0 0).getD y0.1.2.2.2.1.toNat 0)) (fun (y5 : Int) => jp (fun (y6 : (Int × List Int × Int) ×
  Int × (Int × Int × Int × Int × Int × Bool × Bool × Int × Int) × Int × Int × Int × Int × Int × Bool) => some (((y5, y6.1.2), y6.2)))
 (fun K7 => bindS (F76 N y0.1) (fun (y8 : Int) => br (Decidable.decide (0 < y8))
 (bindS (F77 N ((x1.1, setD 0 x1.2.1 0 0, x1.2.2)) y0.1 x2 x3) (fun (y9 : Int) => chk (Decidable.decide (0 ≤ y8) && Decidable.decide (y8 < (↑32 : Int))) (K7 (((x1.1, (setD 0 (setD 0 x1.2.1 0 0) y8.toNat y9, x1.2.2)), (y4.1, (y4.2.1, (y4.2.2.1, (y9, y4.2.2.2.2)))))))))
 (K7 (((x1.1, (setD 0 x1.2.1 0 0, x1.2.2)), y4)))))))))
 (fun K10 => jp (fun (y11 : Bool) => br y11
 (chk (Decidable.decide (0 ≤ y0.1.2.2.2.1) && Decidable.decide (y0.1.2.2.2.1 < (↑32 : Int))) (bindS (F74 N y0.1.1 x2 ((setD 0 x1.2.1 0 0).getD y0.1.2.2.2.1.toNat 0)) (fun (y12 : Int) => K10 ((y3.1, (y3.2.1, (y3.2.2.1, (y3.2.2.2.1, (y3.2.2.2.2.1, (y3.2.2.2.2.2.1, (y12, y3.2.2.2.2.2.2.2)))))))))))
 (K10 y3))
 (fun K13 => bindS (F73 N y0.1.1) (fun (y14 : Bool) => br y14
 (K13 (!y3.2.2.2.2.2.2.2))
 (K13 Bool.false)))))
 (fun K15 => br x3
 (bindS (F72 N y0.1.1) (fun (y16 : Int) => K15 ((y2.1, (y2.2.1, (y2.2.2.1, (y2.2.2.2.1, (y2.2.2.2.2.1, (y2.2.2.2.2.2.1, (y2.2.2.2.2.2.2.1, Decidable.decide (y16 = 11)))))))))))
 (K15 ((y2.1, (y2.2.1, (y2.2.2.1, (y2.2.2.2.1, (y2.2.2.2.2.1, (y2.2.2.2.2.2.1, (y2.2.2.2.2.2.2.1, Bool.false)))))))))))
 (fun K17 => bindS (F69 N y0.1.1) (fun (y18 : Bool) => br y18
 (bindS (F71 N y0.1.1) (fun (y19 : Int) => bindS (F70 N x2 (IntKind.i64.wrap (8 * y19))) (fun (y20 : Int) => K17 ((y1.1, (y1.2.1, (y1.2.2.1, (y1.2.2.2.1, (y1.2.2.2.2.1, (y20, y1.2.2.2.2.2.2))))))))))
 (K17 y1)))))
 (fun K21 => br (Decidable.decide (y0.2 = 0))
 (bindS (F68 N ((x1.1, setD 0 x1.2.1 0 0, x1.2.2)) y0.1 ((↑x4.length : Int))) (fun (y22 : Int × Int) => K21 ((x1.1, (y0.1, (y22.1, (0, (y22.2, (0, (0, Bool.false))))))))))
 (K21 ((x1.1, (y0.1, (y0.2, (0, (0, (0, (0, Bool.false))))))))))))
theorem F29_eq (N : Nat) (x1 : (Int × (List Int × Int))) (x2 : Int) (x3 : Bool) (x4 : List Int) : g29' N x1 x2 x3 x4 = F29 N x1 x2 x3 x4 := by
  refine (e29 N x1 x2 x3 x4).trans ?_
  simp only [F27_eq, F68_eq, F69_eq, F70_eq, F71_eq, F72_eq, F73_eq, F74_eq, F75_eq, F76_eq, F77_eq, F29]
noncomputable def g9' (N : Nat) (x1 : (Int × (List Int × Int))) (x2 : Int) (x3 : Bool) (x4 : List Int) : Option (Bool) := f9 N (x1, x2, x3, x4)
theorem e9 (N : Nat) (x1 : (Int × (List Int × Int))) (x2 : Int) (x3 : Bool) (x4 : List Int) : g9' N x1 x2 x3 x4 =
  bindS (g26' N ) (fun (y0 : Bool) => br (!y0)
 (some Bool.false)
 (br (Decidable.decide (1024 < (↑x4.length : Int)))
 (bindS (g26' N ) (fun (y1 : Bool) => some y1))
 (bindS (g29' N x1 x2 x3 x4) (fun (y2 : (Int × List Int × Int) ×
  Int × (Int × Int × Int × Int × Int × Bool × Bool × Int × Int) × Int × Int × Int × Int × Int × Bool) => br (!Decidable.decide (y2.1.2.1.getD 0 0 = 0))
 (some Bool.false)
 (bindS (g29' N y2.1 x2 x3 x4) (fun (y3 : (Int × List Int × Int) ×
  Int × (Int × Int × Int × Int × Int × Bool × Bool × Int × Int) × Int × Int × Int × Int × Int × Bool) => jp (fun (y4 : Bool) => some y4)
 (fun K5 => bindS (g26' N ) (fun (y6 : Bool) => br y6
 (br (Decidable.decide (y2.1.2.2 = 0))
 (K5 Bool.true)
 (br (((Ty.int IntKind.u64).pair
      ((Ty.arr 32 (Ty.int IntKind.u64)).pair (Ty.int IntKind.i64))).eq
  y2.1 y3.1)
 (K5 (((Ty.int IntKind.u64).pair
      (((Ty.int IntKind.i64).pair
            ((Ty.int IntKind.i64).pair
              ((Ty.int IntKind.i64).pair
                ((Ty.int IntKind.i64).pair
                  ((Ty.int IntKind.i64).pair
                    (Ty.bool.pair
                      (Ty.bool.pair ((Ty.int IntKind.i64).pair (Ty.int IntKind.i64))))))))).pair
        ((Ty.int IntKind.i64).pair
          ((Ty.int IntKind.u64).pair
            ((Ty.int IntKind.u64).pair
              ((Ty.int IntKind.u64).pair ((Ty.int IntKind.u64).pair Ty.bool))))))).eq
  y3.2 (0, (0, 0, 0, 0, 0, Bool.false, Bool.false, 0, 0), 0, 0, 0, 0, 0, Bool.false)))
 (K5 Bool.false)))
 (K5 Bool.false))))))))) := by kernel_rfl
noncomputable def F9 (N : Nat) (x1 : (Int × (List Int × Int))) (x2 : Int) (x3 : Bool) (x4 : List Int) : Option (Bool) :=
  bindS (F26 N ) (fun (y0 : Bool) => br (!y0)
 (some Bool.false)
 (br (Decidable.decide (1024 < (↑x4.length : Int)))
 (bindS (F26 N ) (fun (y1 : Bool) => some y1))
 (bindS (F29 N x1 x2 x3 x4) (fun (y2 : (Int × List Int × Int) ×
  Int × (Int × Int × Int × Int × Int × Bool × Bool × Int × Int) × Int × Int × Int × Int × Int × Bool) => br (!Decidable.decide (y2.1.2.1.getD 0 0 = 0))
 (some Bool.false)
 (bindS (F29 N y2.1 x2 x3 x4) (fun (y3 : (Int × List Int × Int) ×
  Int × (Int × Int × Int × Int × Int × Bool × Bool × Int × Int) × Int × Int × Int × Int × Int × Bool) => jp (fun (y4 : Bool) => some y4)
 (fun K5 => bindS (F26 N ) (fun (y6 : Bool) => br y6
 (br (Decidable.decide (y2.1.2.2 = 0))
 (K5 Bool.true)
 (br (((Ty.int IntKind.u64).pair
      ((Ty.arr 32 (Ty.int IntKind.u64)).pair (Ty.int IntKind.i64))).eq
  y2.1 y3.1)
 (K5 (((Ty.int IntKind.u64).pair
      (((Ty.int IntKind.i64).pair
            ((Ty.int IntKind.i64).pair
              ((Ty.int IntKind.i64).pair
                ((Ty.int IntKind.i64).pair
                  ((Ty.int IntKind.i64).pair
                    (Ty.bool.pair
                      (Ty.bool.pair ((Ty.int IntKind.i64).pair (Ty.int IntKind.i64))))))))).pair
        ((Ty.int IntKind.i64).pair
          ((Ty.int IntKind.u64).pair
            ((Ty.int IntKind.u64).pair
              ((Ty.int IntKind.u64).pair ((Ty.int IntKind.u64).pair Ty.bool))))))).eq
  y3.2 (0, (0, 0, 0, 0, 0, Bool.false, Bool.false, 0, 0), 0, 0, 0, 0, 0, Bool.false)))
 (K5 Bool.false)))
 (K5 Bool.false)))))))))
theorem F9_eq (N : Nat) (x1 : (Int × (List Int × Int))) (x2 : Int) (x3 : Bool) (x4 : List Int) : g9' N x1 x2 x3 x4 = F9 N x1 x2 x3 x4 := by
  refine (e9 N x1 x2 x3 x4).trans ?_
  simp only [F26_eq, F29_eq, F9]
end Go.Proofs.YtkcfkegkhopakaaGreatDoor
