/- What the contracts' functions come to, as printed. No condition. -/
import Derived.Test.YtkcfkegkhopakaaGreatDoorConSa
import Derived.KernelRfl
namespace Go.Proofs.YtkcfkegkhopakaaGreatDoor
open Go Go.Ev Go.Sh
set_option maxRecDepth 100000
set_option linter.unusedVariables false
open Go.IntKind (i8 i16 i32 i64 u8 u16 u32 u64)
abbrev P0Sa := Int × Int × Int
abbrev P1Sa := Bool × Int × Int
abbrev P2Sa := List (List UInt8)
abbrev P3Sa := (List UInt8) × Int
abbrev P4Sa := (List Int) × List Int
abbrev P5Sa := Int × Int × P0Sa
abbrev P6Sa := Bool × List P0Sa
abbrev P7Sa := Int × Bool × P1Sa
abbrev P8Sa := Int × Int × P6Sa
abbrev P9Sa := Int × Int × P7Sa
abbrev P10Sa := Int × Int × P9Sa
noncomputable section
def g18' (N : Nat) : Option Bool := f18 N ()
def F18 (N : Nat) : Option Bool := some true
theorem F18_eq : g18' = F18 := rfl
def g55' (N : Nat) (x1 : List Int) : Option Int := f55 N (x1)
def F55 (N : Nat) (x1 : List Int) : Option Int :=
  fixN N (fun again0 (y1 : Int × Int) => br (decide (0 ≤ y1.2))
 (chk (decide (0 ≤ y1.2) && decide (y1.2 < (↑x1.length : Int))) (again0 ((bits BinOp.or u64 (u64.wrap (y1.1 * 2 ^ Min.min (8) u64.bits)) (u64.wrap (x1.getD y1.2.toNat 0)), i64.wrap (y1.2 - 1)))))
 (some y1.1))
 ((0, i64.wrap ((if 8 < (↑x1.length : Int) then 8 else (↑x1.length : Int)) - 1)))
theorem F55_eq : g55' = F55 := by kernel_rfl
def g70' (N : Nat) (x1 : Int) (x2 : Int) : Option Int := f70 N (x1, x2)
def F70 (N : Nat) (x1 : Int) (x2 : Int) : Option Int :=
  br (decide (x2 < 1))
 (some (0))
 (br (decide (64 ≤ x2))
 (some x1)
 (chk (decide (0 ≤ x2)) (some (bits BinOp.and u64 x1 (u64.wrap (u64.wrap (1 * 2 ^ Min.min x2.toNat u64.bits) - 1))))))
theorem F70_eq : g70' = F70 := by kernel_rfl
def g168' (N : Nat) (x1 : Int) (x2 : Int) (x3 : Int) : Option Int := f168 N (x1, x2, x3)
def R168 (F70 : Nat → Int → Int → Option Int) (N : Nat) (x1 : Int) (x2 : Int) (x3 : Int) : Option Int :=
  jp (fun (y0 : Bool) => br y0
 (some (0))
 (chk (decide (0 ≤ x3)) (bindS (F70 N ((u64.wrap x1).fdiv (2 ^ Min.min x3.toNat u64.bits)) (i64.wrap (i64.wrap (x2 - x3) + 1))) (fun (y1 : Int) => some (u32.wrap y1)))))
 (fun K2 => br (decide (31 < x2))
 (K2 true)
 (br (decide (x2 < x3))
 (K2 true)
 (K2 (decide (x3 < 0)))))
theorem e168 : g168' = R168 g70' := by kernel_rfl
def F168 : Nat → Int → Int → Int → Option Int := R168 F70
theorem F168_eq : g168' = F168 := by
  rw [e168, F70_eq, F168]
def g167' (N : Nat) (x1 : Int) (x2 : Int) (x3 : Int) : Option Int := f167 N (x1, x2, x3)
def R167 (F168 : Nat → Int → Int → Int → Option Int) (N : Nat) (x1 : Int) (x2 : Int) (x3 : Int) : Option Int :=
  bindS (F168 N x3 x1 x2) (fun (y0 : Int) => some y0)
theorem e167 : g167' = R167 g168' := by kernel_rfl
def F167 : Nat → Int → Int → Int → Option Int := R167 F168
theorem F167_eq : g167' = F167 := by
  rw [e167, F168_eq, F167]
def g105' (N : Nat) (x1 : Int) : Option (Int × P5Sa) := f105 N (x1)
def R105 (F167 : Nat → Int → Int → Int → Option Int) (N : Nat) (x1 : Int) : Option (Int × P5Sa) :=
  bindS (F167 N 11 7 x1) (fun (y0 : Int) => bindS (F167 N 19 15 x1) (fun (y1 : Int) => bindS (F167 N 24 20 x1) (fun (y2 : Int) => bindS (F167 N 14 12 x1) (fun (y3 : Int) => bindS (F167 N 31 25 x1) (fun (y4 : Int) => some ((x1, (i64.wrap y0, (i64.wrap y1, (i64.wrap y2, (y3, y4)))))))))))
theorem e105 : g105' = R105 g167' := by kernel_rfl
def F105 : Nat → Int → Option (Int × P5Sa) := R105 F167
theorem F105_eq : g105' = F105 := by
  rw [e105, F167_eq, F105]
def g216' (N : Nat)  : Option (Int × Int × Int × Int × Int × Int × Int × Int × Int × Int × Int × Int × (List P0Sa) × (List P0Sa) × (List P0Sa) × (List P0Sa) × List P0Sa) := f216 N ()
def F216 (N : Nat)  : Option (Int × Int × Int × Int × Int × Int × Int × Int × Int × Int × Int × Int × (List P0Sa) × (List P0Sa) × (List P0Sa) × (List P0Sa) × List P0Sa) :=
  some ((0, (0, (12, (0, (12, (0, (13, (1, (32, (12, (21, (1, ([(31, 20, 0)], ([(31, 25, 5), (11, 7, 0)], ([(31, 31, 12), (7, 7, 11), (30, 25, 5), (11, 8, 1)], ([(31, 12, 12)], [(31, 31, 20), (19, 12, 12), (20, 20, 11), (30, 21, 1)])))))))))))))))))
theorem F216_eq : g216' = F216 := by kernel_rfl
def g187' (N : Nat) (x1 : Int) : Option (P8Sa) := f187 N (x1)
def R187 (F216 : Nat → Option (Int × Int × Int × Int × Int × Int × Int × Int × Int × Int × Int × Int × (List P0Sa) × (List P0Sa) × (List P0Sa) × (List P0Sa) × List P0Sa)) (N : Nat) (x1 : Int) : Option (P8Sa) :=
  jp (fun (y0 : Bool) => br y0
 (some ((0, (0, (false, [])))))
 (jp (fun (y1 : Bool × Int × Int × List P0Sa) => some ((y1.2.1, (y1.2.2.1, (y1.1, y1.2.2.2)))))
 (fun K2 => bindS (F216 N ) (fun (y3 : Int × Int × Int × Int × Int × Int × Int × Int × Int × Int × Int × Int × (List P0Sa) × (List P0Sa) × (List P0Sa) × (List P0Sa) × List P0Sa) => chk (decide (0 ≤ x1) && decide (x1 < (↑6 : Int))) (br (x1.toNat.beq 0)
 (K2 ((true, (y3.1, (y3.2.1, [])))))
 (br (x1.toNat.beq (0 + 1))
 (K2 ((true, (y3.2.2.1, (y3.2.2.2.1, y3.2.2.2.2.2.2.2.2.2.2.2.2.1)))))
 (br (x1.toNat.beq (0 + 1 + 1))
 (K2 ((true, (y3.2.2.2.2.1, (y3.2.2.2.2.2.1, y3.2.2.2.2.2.2.2.2.2.2.2.2.2.1)))))
 (br (x1.toNat.beq (0 + 1 + 1 + 1))
 (K2 ((true, (y3.2.2.2.2.2.2.1, (y3.2.2.2.2.2.2.2.1, y3.2.2.2.2.2.2.2.2.2.2.2.2.2.2.1)))))
 (br (x1.toNat.beq (0 + 1 + 1 + 1 + 1))
 (K2 ((true, (y3.2.2.2.2.2.2.2.2.1, (y3.2.2.2.2.2.2.2.2.2.1, y3.2.2.2.2.2.2.2.2.2.2.2.2.2.2.2.1)))))
 (K2 ((true, (y3.2.2.2.2.2.2.2.2.2.2.1, (y3.2.2.2.2.2.2.2.2.2.2.2.1, y3.2.2.2.2.2.2.2.2.2.2.2.2.2.2.2.2))))))))))))))
 (fun K4 => br (decide (x1 < 1))
 (K4 true)
 (K4 (decide (5 < x1))))
theorem e187 : g187' = R187 g216' := by kernel_rfl
def F187 : Nat → Int → Option (P8Sa) := R187 F216
theorem F187_eq : g187' = F187 := by
  rw [e187, F216_eq, F187]
def g127' (N : Nat) (x1 : Int) (x2 : Int) : Option Int := f127 N (x1, x2)
def R127 (F70 : Nat → Int → Int → Option Int) (N : Nat) (x1 : Int) (x2 : Int) : Option Int :=
  jp (fun (y0 : Bool) => br y0
 (bindS (F70 N x1 x2) (fun (y1 : Int) => some y1))
 (chk (decide (0 ≤ i64.wrap (64 - x2))) (chk (decide (0 ≤ i64.wrap (64 - x2))) (some (u64.wrap ((i64.wrap (u64.wrap (x1 * 2 ^ Min.min (i64.wrap (64 - x2)).toNat u64.bits))).fdiv (2 ^ Min.min (i64.wrap (64 - x2)).toNat i64.bits)))))))
 (fun K2 => br (decide (x2 < 1))
 (K2 true)
 (K2 (decide (64 ≤ x2))))
theorem e127 : g127' = R127 g70' := by kernel_rfl
def F127 : Nat → Int → Int → Option Int := R127 F70
theorem F127_eq : g127' = F127 := by
  rw [e127, F70_eq, F127]
def g159' (N : Nat) (x1 : Int) (x2 : Int) : Option Int := f159 N (x1, x2)
def R159 (F127 : Nat → Int → Int → Option Int) (F168 : Nat → Int → Int → Int → Option Int) (F187 : Nat → Int → Option (P8Sa)) (N : Nat) (x1 : Int) (x2 : Int) : Option Int :=
  bindS (F187 N x1) (fun (y0 : P8Sa) => br (!y0.2.2.1)
 (some (0))
 (fixN N (fun again1 (y2 : Int × Int) => br (decide (y2.2 < (↑y0.2.2.2.length : Int)))
 (chk (decide (0 ≤ y2.2) && decide (y2.2 < (↑y0.2.2.2.length : Int))) (bindS (F168 N x2 ((y0.2.2.2.getD y2.2.toNat (0, 0, 0)).1) ((y0.2.2.2.getD y2.2.toNat (0, 0, 0)).2.1)) (fun (y3 : Int) => chk (decide (0 ≤ (y0.2.2.2.getD y2.2.toNat (0, 0, 0)).2.2)) (again1 ((bits BinOp.or u64 y2.1 (u64.wrap (u64.wrap y3 * 2 ^ Min.min (Int.toNat (y0.2.2.2.getD y2.2.toNat (0, 0, 0)).2.2) u64.bits)), i64.wrap (y2.2 + 1)))))))
 (bindS (F127 N y2.1 y0.1) (fun (y4 : Int) => some (i64.wrap y4))))
 ((0, 0))))
theorem e159 : g159' = R159 g127' g168' g187' := by kernel_rfl
def F159 : Nat → Int → Int → Option Int := R159 F127 F168 F187
theorem F159_eq : g159' = F159 := by
  rw [e159, F127_eq, F168_eq, F187_eq, F159]
def g160' (N : Nat) (x1 : Int × P5Sa) : Option (Int × Int) := f160 N (x1)
def R160 (F159 : Nat → Int → Int → Option Int) (F168 : Nat → Int → Int → Int → Option Int) (N : Nat) (x1 : Int × P5Sa) : Option (Int × Int) :=
  bindS (F168 N x1.1 25 20) (fun (y0 : Int) => bindS (F168 N x1.1 31 26) (fun (y1 : Int) => jp (fun (y2 : Bool) => br y2
 (some ((28, i64.wrap y0)))
 (jp (fun (y3 : Bool) => br y3
 (some ((29, i64.wrap y0)))
 (jp (fun (y4 : Bool) => br y4
 (some ((30, i64.wrap y0)))
 (chk (decide (0 ≤ x1.2.2.2.2.1) && decide (x1.2.2.2.2.1 < (↑8 : Int))) (bindS (F159 N 1 x1.1) (fun (y5 : Int) => some (([22, 0, 23, 24, 25, 0, 26, 27].getD x1.2.2.2.2.1.toNat 0, y5))))))
 (fun K6 => br (decide (x1.2.2.2.2.1 = 5))
 (K6 (decide (y1 = 16)))
 (K6 false))))
 (fun K7 => br (decide (x1.2.2.2.2.1 = 5))
 (K7 (decide (y1 = 0)))
 (K7 false))))
 (fun K8 => br (decide (x1.2.2.2.2.1 = 1))
 (K8 (decide (y1 = 0)))
 (K8 false))))
theorem e160 : g160' = R160 g159' g168' := by kernel_rfl
def F160 : Nat → (Int × P5Sa) → Option (Int × Int) := R160 F159 F168
theorem F160_eq : g160' = F160 := by
  rw [e160, F159_eq, F168_eq, F160]
def g161' (N : Nat) (x1 : Int × P5Sa) : Option (Int × Int) := f161 N (x1)
def R161 (F159 : Nat → Int → Int → Option Int) (N : Nat) (x1 : Int × P5Sa) : Option (Int × Int) :=
  br (decide (x1.2.2.2.2.1 = 0))
 (bindS (F159 N 1 x1.1) (fun (y0 : Int) => some ((31, y0))))
 (jp (fun (y1 : Bool) => br y1
 (some ((32, x1.2.2.2.1)))
 (jp (fun (y2 : Bool) => br y2
 (some ((33, x1.2.2.2.1)))
 (jp (fun (y3 : Bool) => br y3
 (some ((34, x1.2.2.2.1)))
 (some ((0, 0))))
 (fun K4 => br (decide (x1.2.2.2.2.1 = 5))
 (K4 (decide (x1.2.2.2.2.2 = 32)))
 (K4 false))))
 (fun K5 => br (decide (x1.2.2.2.2.1 = 5))
 (K5 (decide (x1.2.2.2.2.2 = 0)))
 (K5 false))))
 (fun K6 => br (decide (x1.2.2.2.2.1 = 1))
 (K6 (decide (x1.2.2.2.2.2 = 0)))
 (K6 false)))
theorem e161 : g161' = R161 g159' := by kernel_rfl
def F161 : Nat → (Int × P5Sa) → Option (Int × Int) := R161 F159
theorem F161_eq : g161' = F161 := by
  rw [e161, F159_eq, F161]
def g162' (N : Nat)  : Option (P4Sa) := f162 N ()
def F162 (N : Nat)  : Option (P4Sa) :=
  some (([35, 37, 38, 39, 40, 41, 43, 44], [36, 0, 0, 0, 0, 42, 0, 0]))
theorem F162_eq : g162' = F162 := by kernel_rfl
def g163' (N : Nat) (x1 : Int × P5Sa) (x2 : List Int) (x3 : List Int) : Option Int := f163 N (x1, x2, x3)
def F163 (N : Nat) (x1 : Int × P5Sa) (x2 : List Int) (x3 : List Int) : Option Int :=
  br (decide (x1.2.2.2.2.2 = 0))
 (chk (decide (0 ≤ x1.2.2.2.2.1) && decide (x1.2.2.2.2.1 < (↑8 : Int))) (some (x2.getD x1.2.2.2.2.1.toNat 0)))
 (br (decide (x1.2.2.2.2.2 = 32))
 (chk (decide (0 ≤ x1.2.2.2.2.1) && decide (x1.2.2.2.2.1 < (↑8 : Int))) (some (x3.getD x1.2.2.2.2.1.toNat 0)))
 (some (0)))
theorem F163_eq : g163' = F163 := by kernel_rfl
def g164' (N : Nat)  : Option (P4Sa) := f164 N ()
def F164 (N : Nat)  : Option (P4Sa) :=
  some (([45, 47, 0, 0, 0, 48, 0, 0], [46, 0, 0, 0, 0, 49, 0, 0]))
theorem F164_eq : g164' = F164 := by kernel_rfl
def g165' (N : Nat) (x1 : Int) : Option (P10Sa) := f165 N (x1)
def R165 (F168 : Nat → Int → Int → Int → Option Int) (N : Nat) (x1 : Int) : Option (P10Sa) :=
  bindS (F168 N x1 31 20) (fun (y0 : Int) => br (decide (y0 = 2099))
 (some ((51, (0, (0, (0, (0, (false, (false, (3, 3))))))))))
 (bindS (F168 N x1 27 24) (fun (y1 : Int) => bindS (F168 N x1 23 20) (fun (y2 : Int) => some ((50, (0, (0, (0, (0, (false, (false, (i64.wrap y1, i64.wrap y2)))))))))))))
theorem e165 : g165' = R165 g168' := by kernel_rfl
def F165 : Nat → Int → Option (P10Sa) := R165 F168
theorem F165_eq : g165' = F165 := by
  rw [e165, F168_eq, F165]
def g166' (N : Nat) (x1 : Int × P5Sa) : Option Int := f166 N (x1)
def R166 (F168 : Nat → Int → Int → Int → Option Int) (N : Nat) (x1 : Int × P5Sa) : Option Int :=
  bindS (F168 N x1.1 31 27) (fun (y0 : Int) => jp (fun (y1 : Int) => jp (fun (y2 : Bool) => br y2
 (some y1)
 (br (!decide (x1.2.2.2.2.1 = 3))
 (some (0))
 (br (decide (y1 ≤ 56))
 (some (i64.wrap (y1 + 1)))
 (some (i64.wrap (i64.wrap (y1 + 67) - 58))))))
 (fun K3 => br (decide (y1 = 0))
 (K3 true)
 (K3 (decide (x1.2.2.2.2.1 = 2)))))
 (fun K4 => br (decide (y0 = 2))
 (br (decide (x1.2.2.2.1 = 0))
 (K4 (54))
 (K4 (0)))
 (br (decide (y0 = 3))
 (K4 (56))
 (br (decide (y0 = 1))
 (K4 (58))
 (br (decide (y0 = 0))
 (K4 (59))
 (br (decide (y0 = 4))
 (K4 (60))
 (br (decide (y0 = 12))
 (K4 (61))
 (br (decide (y0 = 8))
 (K4 (62))
 (br (decide (y0 = 16))
 (K4 (63))
 (br (decide (y0 = 20))
 (K4 (64))
 (br (decide (y0 = 24))
 (K4 (65))
 (br (decide (y0 = 28))
 (K4 (66))
 (K4 (0))))))))))))))
theorem e166 : g166' = R166 g168' := by kernel_rfl
def F166 : Nat → (Int × P5Sa) → Option Int := R166 F168
theorem F166_eq : g166' = F166 := by
  rw [e166, F168_eq, F166]
def g104' (N : Nat) (x1 : Int × P5Sa) : Option (P10Sa) := f104 N (x1)
def R104 (F159 : Nat → Int → Int → Option Int) (F160 : Nat → (Int × P5Sa) → Option (Int × Int)) (F161 : Nat → (Int × P5Sa) → Option (Int × Int)) (F162 : Nat → Option (P4Sa)) (F163 : Nat → (Int × P5Sa) → (List Int) → (List Int) → Option Int) (F164 : Nat → Option (P4Sa)) (F165 : Nat → Int → Option (P10Sa)) (F166 : Nat → (Int × P5Sa) → Option Int) (N : Nat) (x1 : Int × P5Sa) : Option (P10Sa) :=
  jp (fun (y0 : P10Sa) => some y0)
 (fun K1 => br (decide (bits BinOp.and u32 x1.1 127 = 55))
 (bindS (F159 N 4 x1.1) (fun (y2 : Int) => K1 ((1, (x1.2.1, (x1.2.2.1, (x1.2.2.2.1, (y2, (false, (false, (0, 0)))))))))))
 (br (decide (bits BinOp.and u32 x1.1 127 = 23))
 (bindS (F159 N 4 x1.1) (fun (y3 : Int) => K1 ((2, (x1.2.1, (x1.2.2.1, (x1.2.2.2.1, (y3, (false, (false, (0, 0)))))))))))
 (br (decide (bits BinOp.and u32 x1.1 127 = 111))
 (bindS (F159 N 5 x1.1) (fun (y4 : Int) => K1 ((3, (x1.2.1, (x1.2.2.1, (x1.2.2.2.1, (y4, (false, (false, (0, 0)))))))))))
 (br (decide (bits BinOp.and u32 x1.1 127 = 103))
 (br (decide (x1.2.2.2.2.1 = 0))
 (bindS (F159 N 1 x1.1) (fun (y5 : Int) => K1 ((4, (x1.2.1, (x1.2.2.1, (x1.2.2.2.1, (y5, (false, (false, (0, 0)))))))))))
 (K1 ((0, (x1.2.1, (x1.2.2.1, (x1.2.2.2.1, (0, (false, (false, (0, 0)))))))))))
 (br (decide (bits BinOp.and u32 x1.1 127 = 99))
 (chk (decide (0 ≤ x1.2.2.2.2.1) && decide (x1.2.2.2.2.1 < (↑8 : Int))) (bindS (F159 N 3 x1.1) (fun (y6 : Int) => K1 (([5, 6, 0, 0, 7, 8, 9, 10].getD x1.2.2.2.2.1.toNat 0, (x1.2.1, (x1.2.2.1, (x1.2.2.2.1, (y6, (false, (false, (0, 0))))))))))))
 (br (decide (bits BinOp.and u32 x1.1 127 = 3))
 (br (decide (x1.2.2.2.2.1 < 7))
 (bindS (F159 N 1 x1.1) (fun (y7 : Int) => K1 ((i64.wrap (11 + i64.wrap x1.2.2.2.2.1), (x1.2.1, (x1.2.2.1, (x1.2.2.2.1, (y7, (false, (false, (0, 0)))))))))))
 (K1 ((0, (x1.2.1, (x1.2.2.1, (x1.2.2.2.1, (0, (false, (false, (0, 0)))))))))))
 (br (decide (bits BinOp.and u32 x1.1 127 = 35))
 (br (decide (x1.2.2.2.2.1 < 4))
 (bindS (F159 N 2 x1.1) (fun (y8 : Int) => K1 ((i64.wrap (18 + i64.wrap x1.2.2.2.2.1), (x1.2.1, (x1.2.2.1, (x1.2.2.2.1, (y8, (false, (false, (0, 0)))))))))))
 (K1 ((0, (x1.2.1, (x1.2.2.1, (x1.2.2.2.1, (0, (false, (false, (0, 0)))))))))))
 (br (decide (bits BinOp.and u32 x1.1 127 = 19))
 (bindS (F160 N x1) (fun (y9 : Int × Int) => K1 ((y9.1, (x1.2.1, (x1.2.2.1, (x1.2.2.2.1, (y9.2, (false, (false, (0, 0)))))))))))
 (br (decide (bits BinOp.and u32 x1.1 127 = 27))
 (bindS (F161 N x1) (fun (y10 : Int × Int) => K1 ((y10.1, (x1.2.1, (x1.2.2.1, (x1.2.2.2.1, (y10.2, (false, (false, (0, 0)))))))))))
 (br (decide (bits BinOp.and u32 x1.1 127 = 51))
 (bindS (F162 N ) (fun (y11 : P4Sa) => bindS (F163 N x1 y11.1 y11.2) (fun (y12 : Int) => K1 ((y12, (x1.2.1, (x1.2.2.1, (x1.2.2.2.1, (0, (false, (false, (0, 0))))))))))))
 (br (decide (bits BinOp.and u32 x1.1 127 = 59))
 (bindS (F164 N ) (fun (y13 : P4Sa) => bindS (F163 N x1 y13.1 y13.2) (fun (y14 : Int) => K1 ((y14, (x1.2.1, (x1.2.2.1, (x1.2.2.2.1, (0, (false, (false, (0, 0))))))))))))
 (br (decide (bits BinOp.and u32 x1.1 127 = 15))
 (br (decide (x1.2.2.2.2.1 = 0))
 (bindS (F165 N x1.1) (fun (y15 : P10Sa) => some y15))
 (K1 ((0, (x1.2.1, (x1.2.2.1, (x1.2.2.2.1, (0, (false, (false, (0, 0)))))))))))
 (br (decide (bits BinOp.and u32 x1.1 127 = 115))
 (jp (fun (y16 : P10Sa) => K1 y16)
 (fun K17 => br (decide (x1.1 = 115))
 (K17 ((52, (x1.2.1, (x1.2.2.1, (x1.2.2.2.1, (0, (false, (false, (0, 0))))))))))
 (br (decide (x1.1 = 1048691))
 (K17 ((53, (x1.2.1, (x1.2.2.1, (x1.2.2.2.1, (0, (false, (false, (0, 0))))))))))
 (K17 ((0, (x1.2.1, (x1.2.2.1, (x1.2.2.2.1, (0, (false, (false, (0, 0)))))))))))))
 (br (decide (bits BinOp.and u32 x1.1 127 = 47))
 (bindS (F166 N x1) (fun (y18 : Int) => K1 ((y18, (x1.2.1, (x1.2.2.1, (x1.2.2.2.1, (0, (decide (bits BinOp.and u32 (x1.1.fdiv (2 ^ Min.min (26) u32.bits)) 1 = 1), (decide (bits BinOp.and u32 (x1.1.fdiv (2 ^ Min.min (25) u32.bits)) 1 = 1), (0, 0)))))))))))
 (K1 ((0, (x1.2.1, (x1.2.2.1, (x1.2.2.2.1, (0, (false, (false, (0, 0))))))))))))))))))))))))
theorem e104 : g104' = R104 g159' g160' g161' g162' g163' g164' g165' g166' := by kernel_rfl
def F104 : Nat → (Int × P5Sa) → Option (P10Sa) := R104 F159 F160 F161 F162 F163 F164 F165 F166
theorem F104_eq : g104' = F104 := by
  rw [e104, F159_eq, F160_eq, F161_eq, F162_eq, F163_eq, F164_eq, F165_eq, F166_eq, F104]
def g72' (N : Nat) (x1 : Int) : Option Int := f72 N (x1)
def F72 (N : Nat) (x1 : Int) : Option Int :=
  jp (fun (y0 : Bool) => br y0
 (some (0))
 (br (decide (x1 ≤ 2))
 (some (1))
 (br (decide (x1 ≤ 4))
 (some (2))
 (br (decide (x1 ≤ 10))
 (some (3))
 (br (decide (x1 ≤ 17))
 (some (4))
 (br (decide (x1 ≤ 21))
 (some (5))
 (br (decide (x1 ≤ 34))
 (some (6))
 (br (decide (x1 ≤ 49))
 (some (7))
 (br (decide (x1 ≤ 51))
 (some (8))
 (br (decide (x1 ≤ 53))
 (some (9))
 (br (decide (x1 ≤ 55))
 (some (10))
 (br (decide (x1 ≤ 57))
 (some (11))
 (some (12))))))))))))))
 (fun K1 => br (decide (x1 < 1))
 (K1 true)
 (K1 (decide (75 < x1))))
theorem F72_eq : g72' = F72 := by kernel_rfl
def g129' (N : Nat) (x1 : Int) : Option Int := f129 N (x1)
def F129 (N : Nat) (x1 : Int) : Option Int :=
  jp (fun (y0 : Bool) => br y0
 (some (0))
 (some x1))
 (fun K1 => br (decide (x1 < 0))
 (K1 true)
 (K1 (decide (31 < x1))))
theorem F129_eq : g129' = F129 := by kernel_rfl
def g76' (N : Nat) (x1 : P10Sa) : Option Int := f76 N (x1)
def R76 (F129 : Nat → Int → Option Int) (F72 : Nat → Int → Option Int) (N : Nat) (x1 : P10Sa) : Option Int :=
  bindS (F72 N x1.1) (fun (y0 : Int) => jp (fun (y1 : Bool) => br y1
 (some (0))
 (bindS (F129 N x1.2.1) (fun (y2 : Int) => some y2)))
 (fun K3 => br (decide (y0 = 0))
 (K3 true)
 (br (decide (y0 = 3))
 (K3 true)
 (br (decide (y0 = 5))
 (K3 true)
 (br (decide (y0 = 8))
 (K3 true)
 (K3 (decide (y0 = 9))))))))
theorem e76 : g76' = R76 g129' g72' := by kernel_rfl
def F76 : Nat → P10Sa → Option Int := R76 F129 F72
theorem F76_eq : g76' = F76 := by
  rw [e76, F129_eq, F72_eq, F76]
def g146' (N : Nat) (x1 : P10Sa) : Option (List Int) := f146 N (x1)
def R146 (F129 : Nat → Int → Option Int) (F72 : Nat → Int → Option Int) (N : Nat) (x1 : P10Sa) : Option (List Int) :=
  bindS (F72 N x1.1) (fun (y0 : Int) => jp (fun (y1 : List Int) => fixN N (fun again2 (y3 : Int × List Int) => br (decide (y3.1 < (↑y1.length : Int)))
 (jp (fun (y4 : List Int) => again2 ((i64.wrap (y3.1 + 1), y4)))
 (fun K5 => chk (decide (0 ≤ y3.1) && decide (y3.1 < (↑y1.length : Int))) (br (!decide (y1.getD y3.1.toNat 0 = 0))
 (chk (decide ((y3.2.length + [y1.getD y3.1.toNat 0].length) * 8 ≤ lim)) (K5 (y3.2 ++ [y1.getD y3.1.toNat 0])))
 (K5 y3.2))))
 (some y3.2))
 ((0, [])))
 (fun K6 => jp (fun (y7 : Bool) => br y7
 (bindS (F129 N x1.2.2.1) (fun (y8 : Int) => bindS (F129 N x1.2.2.2.1) (fun (y9 : Int) => K6 ([y8, y9]))))
 (jp (fun (y10 : Bool) => br y10
 (bindS (F129 N x1.2.2.1) (fun (y11 : Int) => K6 [y11]))
 (br (decide (y0 = 2))
 (br (decide (x1.1 = 4))
 (bindS (F129 N x1.2.2.1) (fun (y12 : Int) => K6 [y12]))
 (K6 []))
 (K6 [])))
 (fun K13 => br (decide (y0 = 4))
 (K13 true)
 (br (decide (y0 = 6))
 (K13 true)
 (K13 (decide (y0 = 10)))))))
 (fun K14 => br (decide (y0 = 3))
 (K14 true)
 (br (decide (y0 = 5))
 (K14 true)
 (br (decide (y0 = 7))
 (K14 true)
 (br (decide (y0 = 11))
 (K14 true)
 (K14 (decide (y0 = 12)))))))))
theorem e146 : g146' = R146 g129' g72' := by kernel_rfl
def F146 : Nat → P10Sa → Option (List Int) := R146 F129 F72
theorem F146_eq : g146' = F146 := by
  rw [e146, F129_eq, F72_eq, F146]
def g92' (N : Nat) (x1 : P10Sa) : Option (P10Sa) := f92 N (x1)
def R92 (F146 : Nat → P10Sa → Option (List Int)) (F76 : Nat → P10Sa → Option Int) (N : Nat) (x1 : P10Sa) : Option (P10Sa) :=
  jp (fun (y0 : P10Sa) => bindS (F146 N ((x1.1, 1, 2, 3, 0, false, false, 0, 0))) (fun (y1 : List Int) => fixN N (fun again2 (y3 : Int × List Bool) => br (decide (y3.1 < (↑y1.length : Int)))
 (chk (decide (0 ≤ y3.1) && decide (y3.1 < (↑y1.length : Int))) (chk (decide (0 ≤ y1.getD y3.1.toNat 0) && decide (y1.getD y3.1.toNat 0 < (↑4 : Int))) (again2 ((i64.wrap (y3.1 + 1), setD false y3.2 (Int.toNat (y1.getD y3.1.toNat 0)) true)))))
 (jp (fun (y4 : P10Sa) => jp (fun (y5 : P10Sa) => some y5)
 (fun K6 => br (!y3.2.getD (3) false)
 (K6 ((y4.1, (y4.2.1, (y4.2.2.1, (0, y4.2.2.2.2))))))
 (K6 y4)))
 (fun K7 => br (!y3.2.getD (2) false)
 (K7 ((y0.1, (y0.2.1, (0, y0.2.2.2)))))
 (K7 y0))))
 ((0, [false, false, false, false]))))
 (fun K8 => bindS (F76 N ((x1.1, 1, 2, 3, 0, false, false, 0, 0))) (fun (y9 : Int) => br (decide (y9 = 0))
 (K8 ((x1.1, (0, x1.2.2))))
 (K8 x1)))
theorem e92 : g92' = R92 g146' g76' := by kernel_rfl
def F92 : Nat → P10Sa → Option (P10Sa) := R92 F146 F76
theorem F92_eq : g92' = F92 := by
  rw [e92, F146_eq, F76_eq, F92]
def g56' (N : Nat) (x1 : Int) : Option (P10Sa × Int) := f56 N (x1)
def R56 (F104 : Nat → (Int × P5Sa) → Option (P10Sa)) (F105 : Nat → Int → Option (Int × P5Sa)) (F92 : Nat → P10Sa → Option (P10Sa)) (N : Nat) (x1 : Int) : Option (P10Sa × Int) :=
  bindS (F105 N x1) (fun (y0 : Int × P5Sa) => bindS (F104 N y0) (fun (y1 : P10Sa) => br (decide (y1.1 = 0))
 (some (((0, (0, (0, (0, (0, (false, (false, (0, 0)))))))), 2)))
 (bindS (F92 N y1) (fun (y2 : P10Sa) => some ((y2, 0))))))
theorem e56 : g56' = R56 g104' g105' g92' := by kernel_rfl
def F56 : Nat → Int → Option (P10Sa × Int) := R56 F104 F105 F92
theorem F56_eq : g56' = F56 := by
  rw [e56, F104_eq, F105_eq, F92_eq, F56]
def g143' (N : Nat) (x1 : Int) : Option Int := f143 N (x1)
def F143 (N : Nat) (x1 : Int) : Option Int :=
  jp (fun (y0 : Bool) => br y0
 (some (6))
 (jp (fun (y1 : Bool) => br y1
 (some (5))
 (some (0)))
 (fun K2 => br (decide (x1 = 32))
 (K2 true)
 (br (decide (x1 = 33))
 (K2 true)
 (K2 (decide (x1 = 34)))))))
 (fun K3 => br (decide (x1 = 28))
 (K3 true)
 (br (decide (x1 = 29))
 (K3 true)
 (K3 (decide (x1 = 30)))))
theorem F143_eq : g143' = F143 := by kernel_rfl
def g144' (N : Nat) (x1 : Int) : Option Int := f144 N (x1)
def R144 (F143 : Nat → Int → Option Int) (F72 : Nat → Int → Option Int) (N : Nat) (x1 : Int) : Option Int :=
  bindS (F72 N x1) (fun (y0 : Int) => jp (fun (y1 : PUnit) => some (0))
 (fun K2 => br (decide (y0 = 1))
 (some (4))
 (br (decide (y0 = 3))
 (some (3))
 (br (decide (y0 = 5))
 (some (2))
 (br (decide (y0 = 2))
 (br (decide (x1 = 3))
 (some (5))
 (some (1)))
 (br (decide (y0 = 4))
 (some (1))
 (br (decide (y0 = 6))
 (bindS (F143 N x1) (fun (y3 : Int) => br (decide (y3 = 0))
 (some (1))
 (K2 ())))
 (K2 ()))))))))
theorem e144 : g144' = R144 g143' g72' := by kernel_rfl
def F144 : Nat → Int → Option Int := R144 F143 F72
theorem F144_eq : g144' = F144 := by
  rw [e144, F143_eq, F72_eq, F144]
def g145' (N : Nat) (x1 : Int) (x2 : Int) : Option (Int × Bool) := f145 N (x1, x2)
def R145 (F127 : Nat → Int → Int → Option Int) (F187 : Nat → Int → Option (P8Sa)) (F70 : Nat → Int → Int → Option Int) (N : Nat) (x1 : Int) (x2 : Int) : Option (Int × Bool) :=
  bindS (F187 N x1) (fun (y0 : P8Sa) => jp (fun (y1 : Bool) => br y1
 (some ((0, false)))
 (fixN N (fun again2 (y3 : Int × Int) => br (decide (y3.2 < (↑y0.2.2.2.length : Int)))
 (chk (decide (0 ≤ y3.2) && decide (y3.2 < (↑y0.2.2.2.length : Int))) (chk (decide (0 ≤ (y0.2.2.2.getD y3.2.toNat (0, 0, 0)).2.2)) (bindS (F70 N ((u64.wrap x2).fdiv (2 ^ Min.min (Int.toNat (y0.2.2.2.getD y3.2.toNat (0, 0, 0)).2.2) u64.bits)) (i64.wrap (i64.wrap ((y0.2.2.2.getD y3.2.toNat (0, 0, 0)).1 - (y0.2.2.2.getD y3.2.toNat (0, 0, 0)).2.1) + 1))) (fun (y4 : Int) => chk (decide (0 ≤ (y0.2.2.2.getD y3.2.toNat (0, 0, 0)).2.1)) (again2 ((bits BinOp.or u32 y3.1 (u32.wrap (u32.wrap y4 * 2 ^ Min.min (Int.toNat (y0.2.2.2.getD y3.2.toNat (0, 0, 0)).2.1) u32.bits)), i64.wrap (y3.2 + 1))))))))
 (some ((y3.1, true))))
 ((0, 0))))
 (fun K5 => br (!y0.2.2.1)
 (K5 true)
 (bindS (F127 N (u64.wrap x2) y0.1) (fun (y6 : Int) => br (!decide (y6 = u64.wrap x2))
 (K5 true)
 (bindS (F70 N (u64.wrap x2) y0.2.1) (fun (y7 : Int) => K5 (!decide (y7 = 0))))))))
theorem e145 : g145' = R145 g127' g187' g70' := by kernel_rfl
def F145 : Nat → Int → Int → Option (Int × Bool) := R145 F127 F187 F70
theorem F145_eq : g145' = F145 := by
  rw [e145, F127_eq, F187_eq, F70_eq, F145]
def g91' (N : Nat) (x1 : P10Sa) : Option (Int × Bool) := f91 N (x1)
def R91 (F143 : Nat → Int → Option Int) (F144 : Nat → Int → Option Int) (F145 : Nat → Int → Int → Option (Int × Bool)) (N : Nat) (x1 : P10Sa) : Option (Int × Bool) :=
  bindS (F143 N x1.1) (fun (y0 : Int) => br (decide (0 < y0))
 (jp (fun (y1 : Int × Bool) => some ((y1.1, y1.2)))
 (fun K2 => br (decide (0 ≤ x1.2.2.2.2.1))
 (chk (decide (0 ≤ y0)) (K2 ((u32.wrap (u32.wrap x1.2.2.2.2.1 * 2 ^ Min.min (20) u32.bits), decide (x1.2.2.2.2.1 < i64.wrap (1 * 2 ^ Min.min y0.toNat i64.bits))))))
 (K2 ((u32.wrap (u32.wrap x1.2.2.2.2.1 * 2 ^ Min.min (20) u32.bits), false)))))
 (bindS (F144 N x1.1) (fun (y3 : Int) => br (decide (0 < y3))
 (bindS (F145 N y3 x1.2.2.2.2.1) (fun (y4 : Int × Bool) => some ((y4.1, y4.2))))
 (some ((0, decide (x1.2.2.2.2.1 = 0)))))))
theorem e91 : g91' = R91 g143' g144' g145' := by kernel_rfl
def F91 : Nat → P10Sa → Option (Int × Bool) := R91 F143 F144 F145
theorem F91_eq : g91' = F91 := by
  rw [e91, F143_eq, F144_eq, F145_eq, F91]
def g38' (N : Nat) (x1 : P10Sa) : Option Bool := f38 N (x1)
def R38 (F72 : Nat → Int → Option Int) (F91 : Nat → P10Sa → Option (Int × Bool)) (F92 : Nat → P10Sa → Option (P10Sa)) (N : Nat) (x1 : P10Sa) : Option Bool :=
  bindS (F91 N x1) (fun (y0 : Int × Bool) => bindS (F72 N x1.1) (fun (y1 : Int) => jp (fun (y2 : Bool) => br y2
 (some false)
 (br (decide (x1.1 = 50))
 (jp (fun (y3 : Bool) => some y3)
 (fun K4 => br (decide (0 ≤ x1.2.2.2.2.2.2.2.1))
 (br (decide (x1.2.2.2.2.2.2.2.1 ≤ 15))
 (br (decide (0 ≤ x1.2.2.2.2.2.2.2.2))
 (K4 (decide (x1.2.2.2.2.2.2.2.2 ≤ 15)))
 (K4 false))
 (K4 false))
 (K4 false)))
 (br (decide (x1.1 = 51))
 (jp (fun (y5 : Bool) => some y5)
 (fun K6 => br (decide (x1.2.2.2.2.2.2.2.1 = 3))
 (K6 (decide (x1.2.2.2.2.2.2.2.2 = 3)))
 (K6 false)))
 (fixN N (fun again7 (y8 : Int) => br (decide (y8 < 3))
 (chk (decide (0 ≤ y8) && decide (y8 < (↑3 : Int))) (jp (fun (y9 : Bool) => br y9
 (some false)
 (again7 (i64.wrap (y8 + 1))))
 (fun K10 => br (decide ([x1.2.1, x1.2.2.1, x1.2.2.2.1].getD y8.toNat 0 < 0))
 (K10 true)
 (K10 (decide (31 < [x1.2.1, x1.2.2.1, x1.2.2.2.1].getD y8.toNat 0))))))
 (jp (fun (y11 : Bool) => some y11)
 (fun K12 => br (decide (x1.2.2.2.2.2.2.2.1 = 0))
 (K12 (decide (x1.2.2.2.2.2.2.2.2 = 0)))
 (K12 false))))
 (0)))))
 (fun K13 => br (decide (y1 = 0))
 (K13 true)
 (br (!y0.2)
 (K13 true)
 (bindS (F92 N x1) (fun (y14 : P10Sa) => br (!((Ty.int i64).pair ((Ty.int i64).pair ((Ty.int i64).pair ((Ty.int i64).pair ((Ty.int i64).pair (Ty.bool.pair (Ty.bool.pair ((Ty.int i64).pair (Ty.int i64))))))))).eq y14 x1)
 (K13 true)
 (br x1.2.2.2.2.2.1
 (K13 (decide (y1 < 10)))
 (br x1.2.2.2.2.2.2.1
 (K13 (decide (y1 < 10)))
 (K13 false)))))))))
theorem e38 : g38' = R38 g72' g91' g92' := by kernel_rfl
def F38 : Nat → P10Sa → Option Bool := R38 F72 F91 F92
theorem F38_eq : g38' = F38 := by
  rw [e38, F72_eq, F91_eq, F92_eq, F38]
def g107' (N : Nat) (x1 : Int) : Option Int := f107 N (x1)
def R107 (F72 : Nat → Int → Option Int) (N : Nat) (x1 : Int) : Option Int :=
  bindS (F72 N x1) (fun (y0 : Int) => br (decide (y0 = 1))
 (br (decide (x1 = 1))
 (some (55))
 (some (23)))
 (br (decide (y0 = 2))
 (br (decide (x1 = 3))
 (some (111))
 (some (103)))
 (br (decide (y0 = 3))
 (some (99))
 (br (decide (y0 = 4))
 (some (3))
 (br (decide (y0 = 5))
 (some (35))
 (br (decide (y0 = 6))
 (br (decide (31 ≤ x1))
 (some (27))
 (some (19)))
 (br (decide (y0 = 7))
 (br (decide (45 ≤ x1))
 (some (59))
 (some (51)))
 (br (decide (y0 = 8))
 (some (15))
 (br (decide (y0 = 9))
 (some (115))
 (br (decide (y0 = 0))
 (some (0))
 (some (47))))))))))))
theorem e107 : g107' = R107 g72' := by kernel_rfl
def F107 : Nat → Int → Option Int := R107 F72
theorem F107_eq : g107' = F107 := by
  rw [e107, F72_eq, F107]
def g71' (N : Nat) (x1 : Int) : Option Int := f71 N (x1)
def R71 (F72 : Nat → Int → Option Int) (N : Nat) (x1 : Int) : Option Int :=
  jp (fun (y0 : Bool) => br y0
 (some (1))
 (jp (fun (y1 : Bool) => br y1
 (some (2))
 (jp (fun (y2 : Bool) => br y2
 (some (4))
 (jp (fun (y3 : Bool) => br y3
 (some (8))
 (bindS (F72 N x1) (fun (y4 : Int) => br (!decide (y4 = 12))
 (some (0))
 (br (decide (x1 ≤ 66))
 (some (4))
 (some (8))))))
 (fun K5 => br (decide (x1 = 14))
 (K5 true)
 (br (decide (x1 = 21))
 (K5 true)
 (br (decide (x1 = 55))
 (K5 true)
 (K5 (decide (x1 = 57))))))))
 (fun K6 => br (decide (x1 = 13))
 (K6 true)
 (br (decide (x1 = 17))
 (K6 true)
 (br (decide (x1 = 20))
 (K6 true)
 (br (decide (x1 = 54))
 (K6 true)
 (K6 (decide (x1 = 56)))))))))
 (fun K7 => br (decide (x1 = 12))
 (K7 true)
 (br (decide (x1 = 16))
 (K7 true)
 (K7 (decide (x1 = 19)))))))
 (fun K8 => br (decide (x1 = 11))
 (K8 true)
 (br (decide (x1 = 15))
 (K8 true)
 (K8 (decide (x1 = 18)))))
theorem e71 : g71' = R71 g72' := by kernel_rfl
def F71 : Nat → Int → Option Int := R71 F72
theorem F71_eq : g71' = F71 := by
  rw [e71, F72_eq, F71]
def g108' (N : Nat) (x1 : Int) : Option Int := f108 N (x1)
def R108 (F71 : Nat → Int → Option Int) (F72 : Nat → Int → Option Int) (N : Nat) (x1 : Int) : Option Int :=
  bindS (F72 N x1) (fun (y0 : Int) => br (decide (y0 = 3))
 (chk (decide (0 ≤ i64.wrap (x1 - 5)) && decide (i64.wrap (x1 - 5) < (↑6 : Int))) (some ([0, 1, 4, 5, 6, 7].getD (i64.wrap (x1 - 5)).toNat 0)))
 (br (decide (y0 = 4))
 (some (u32.wrap (i64.wrap (x1 - 11))))
 (br (decide (y0 = 5))
 (some (u32.wrap (i64.wrap (x1 - 18))))
 (jp (fun (y1 : Bool) => br y1
 (bindS (F71 N x1) (fun (y2 : Int) => br (decide (y2 = 4))
 (some (2))
 (some (3))))
 (jp (fun (y3 : Bool) => br y3
 (some (1))
 (jp (fun (y4 : Bool) => br y4
 (some (2))
 (jp (fun (y5 : Bool) => br y5
 (some (3))
 (jp (fun (y6 : Bool) => br y6
 (some (4))
 (jp (fun (y7 : Bool) => br y7
 (some (5))
 (jp (fun (y8 : Bool) => br y8
 (some (6))
 (jp (fun (y9 : Bool) => br y9
 (some (7))
 (some (0)))
 (fun K10 => br (decide (x1 = 44))
 (K10 true)
 (K10 (decide (x1 = 27))))))
 (fun K11 => br (decide (x1 = 43))
 (K11 true)
 (K11 (decide (x1 = 26))))))
 (fun K12 => br (decide (x1 = 41))
 (K12 true)
 (br (decide (x1 = 29))
 (K12 true)
 (br (decide (x1 = 48))
 (K12 true)
 (br (decide (x1 = 33))
 (K12 true)
 (br (decide (x1 = 42))
 (K12 true)
 (br (decide (x1 = 30))
 (K12 true)
 (br (decide (x1 = 49))
 (K12 true)
 (K12 (decide (x1 = 34))))))))))))
 (fun K13 => br (decide (x1 = 40))
 (K13 true)
 (K13 (decide (x1 = 25))))))
 (fun K14 => br (decide (x1 = 39))
 (K14 true)
 (K14 (decide (x1 = 24))))))
 (fun K15 => br (decide (x1 = 38))
 (K15 true)
 (K15 (decide (x1 = 23))))))
 (fun K16 => br (decide (x1 = 37))
 (K16 true)
 (br (decide (x1 = 28))
 (K16 true)
 (br (decide (x1 = 47))
 (K16 true)
 (K16 (decide (x1 = 32))))))))
 (fun K17 => br (decide (y0 = 10))
 (K17 true)
 (br (decide (y0 = 11))
 (K17 true)
 (K17 (decide (y0 = 12)))))))))
theorem e108 : g108' = R108 g71' g72' := by kernel_rfl
def F108 : Nat → Int → Option Int := R108 F71 F72
theorem F108_eq : g108' = F108 := by
  rw [e108, F71_eq, F72_eq, F108]
def g109' (N : Nat) (x1 : Int) : Option Int := f109 N (x1)
def R109 (F72 : Nat → Int → Option Int) (N : Nat) (x1 : Int) : Option Int :=
  bindS (F72 N x1) (fun (y0 : Int) => br (decide (y0 = 10))
 (some (268435456))
 (br (decide (y0 = 11))
 (some (402653184))
 (br (decide (y0 = 12))
 (chk (decide (0 ≤ (i64.wrap (x1 - 58)).tmod 9) && decide ((i64.wrap (x1 - 58)).tmod 9 < (↑9 : Int))) (some (u32.wrap ([1, 0, 4, 12, 8, 16, 20, 24, 28].getD ((i64.wrap (x1 - 58)).tmod 9).toNat 0 * 2 ^ Min.min (27) u32.bits))))
 (jp (fun (y1 : Bool) => br y1
 (some (1073741824))
 (br (decide (x1 = 51))
 (some (2147483648))
 (br (decide (x1 = 53))
 (some (1048576))
 (some (0)))))
 (fun K2 => br (decide (x1 = 36))
 (K2 true)
 (br (decide (x1 = 46))
 (K2 true)
 (br (decide (x1 = 42))
 (K2 true)
 (br (decide (x1 = 49))
 (K2 true)
 (br (decide (x1 = 30))
 (K2 true)
 (K2 (decide (x1 = 34))))))))))))
theorem e109 : g109' = R109 g72' := by kernel_rfl
def F109 : Nat → Int → Option Int := R109 F72
theorem F109_eq : g109' = F109 := by
  rw [e109, F72_eq, F109]
def g110' (N : Nat) (x1 : Bool) (x2 : Int) : Option Int := f110 N (x1, x2)
def F110 (N : Nat) (x1 : Bool) (x2 : Int) : Option Int :=
  br x1
 (chk (decide (0 ≤ x2)) (some (u32.wrap (1 * 2 ^ Min.min x2.toNat u32.bits))))
 (some (0))
theorem F110_eq : g110' = F110 := by kernel_rfl
def g106' (N : Nat) (x1 : List Int) : Option Int := f106 N (x1)
def F106 (N : Nat) (x1 : List Int) : Option Int :=
  fixN N (fun again0 (y1 : Int × Int) => br (decide (y1.2 < (↑x1.length : Int)))
 (chk (decide (0 ≤ y1.2) && decide (y1.2 < (↑x1.length : Int))) (again0 ((bits BinOp.or u32 y1.1 (x1.getD y1.2.toNat 0), i64.wrap (y1.2 + 1)))))
 (some y1.1))
 ((0, 0))
theorem F106_eq : g106' = F106 := by kernel_rfl
def g57' (N : Nat) (x1 : P10Sa) : Option (Int × Int) := f57 N (x1)
def R57 (F106 : Nat → (List Int) → Option Int) (F107 : Nat → Int → Option Int) (F108 : Nat → Int → Option Int) (F109 : Nat → Int → Option Int) (F110 : Nat → Bool → Int → Option Int) (F38 : Nat → P10Sa → Option Bool) (F91 : Nat → P10Sa → Option (Int × Bool)) (N : Nat) (x1 : P10Sa) : Option (Int × Int) :=
  bindS (F38 N x1) (fun (y0 : Bool) => br (!y0)
 (some ((0, 1)))
 (bindS (F91 N x1) (fun (y1 : Int × Bool) => bindS (F107 N x1.1) (fun (y2 : Int) => bindS (F108 N x1.1) (fun (y3 : Int) => bindS (F109 N x1.1) (fun (y4 : Int) => bindS (F110 N x1.2.2.2.2.2.1 26) (fun (y5 : Int) => bindS (F110 N x1.2.2.2.2.2.2.1 25) (fun (y6 : Int) => bindS (F106 N ([y2, u32.wrap (u32.wrap x1.2.1 * 2 ^ Min.min (7) u32.bits), u32.wrap (y3 * 2 ^ Min.min (12) u32.bits), u32.wrap (u32.wrap x1.2.2.1 * 2 ^ Min.min (15) u32.bits), u32.wrap (u32.wrap x1.2.2.2.1 * 2 ^ Min.min (20) u32.bits), y4, y1.1, y5, y6, u32.wrap (u32.wrap x1.2.2.2.2.2.2.2.1 * 2 ^ Min.min (24) u32.bits), u32.wrap (u32.wrap x1.2.2.2.2.2.2.2.2 * 2 ^ Min.min (20) u32.bits)])) (fun (y7 : Int) => some ((y7, 0)))))))))))
theorem e57 : g57' = R57 g106' g107' g108' g109' g110' g38' g91' := by kernel_rfl
def F57 : Nat → P10Sa → Option (Int × Int) := R57 F106 F107 F108 F109 F110 F38 F91
theorem F57_eq : g57' = F57 := by
  rw [e57, F106_eq, F107_eq, F108_eq, F109_eq, F110_eq, F38_eq, F91_eq, F57]
def g89' (N : Nat) (x1 : Int) (x2 : Int) : Option (List UInt8) := f89 N (x1, x2)
def F89 (N : Nat) (x1 : Int) (x2 : Int) : Option (List UInt8) := fintS N (x1, x2)
theorem F89_eq : g89' = F89 := rfl
def g59' (N : Nat) (x1 : Int) : Option (List UInt8) := f59 N (x1)
def F59 (N : Nat) (x1 : Int) : Option (List UInt8) := itoaS N (x1)
theorem F59_eq : g59' = F59 := rfl
def g147' (N : Nat) (x1 : Int) : Option (List UInt8) := f147 N (x1)
def R147 (F59 : Nat → Int → Option (List UInt8)) (N : Nat) (x1 : Int) : Option (List UInt8) :=
  bindS (F59 N x1) (fun (y0 : List UInt8) => chk (decide (([120] : List UInt8).length + y0.length ≤ 9223372036854775807)) (some (([120] : List UInt8) ++ y0)))
theorem e147 : g147' = R147 g59' := by kernel_rfl
def F147 : Nat → Int → Option (List UInt8) := R147 F59
theorem F147_eq : g147' = F147 := by
  rw [e147, F59_eq, F147]
def g148' (N : Nat) (x1 : Int) : Option (List UInt8) := f148 N (x1)
def F148 (N : Nat) (x1 : Int) : Option (List UInt8) :=
  fixN N (fun again0 (y1 : P3Sa) => br (decide (y1.2 < 4))
 (jp (fun (y2 : List UInt8) => again0 ((y2, i64.wrap (y1.2 + 1))))
 (fun K3 => chk (decide (0 ≤ y1.2)) (br (!decide (bits BinOp.and i64 x1 (Int.fdiv 8 (2 ^ Min.min y1.2.toNat i64.bits)) = 0))
 (chk (decide (0 ≤ y1.2) && decide (0 ≤ i64.wrap (y1.2 + 1)) && y1.2.toNat.ble (i64.wrap (y1.2 + 1)).toNat && (i64.wrap (y1.2 + 1)).toNat.ble ([105, 111, 114, 119] : List UInt8).length) (chk (decide (y1.1.length + (List.take ((i64.wrap (y1.2 + 1)).toNat - y1.2.toNat) (List.drop y1.2.toNat ([105, 111, 114, 119] : List UInt8))).length ≤ 9223372036854775807)) (K3 (y1.1 ++ List.take ((i64.wrap (y1.2 + 1)).toNat - y1.2.toNat) (List.drop y1.2.toNat ([105, 111, 114, 119] : List UInt8))))))
 (K3 y1.1))))
 (br (y1.1 == [])
 (some (([48] : List UInt8)))
 (some y1.1)))
 (([], 0))
theorem F148_eq : g148' = F148 := by kernel_rfl
def g93' (N : Nat) (x1 : P10Sa) : Option (P2Sa) := f93 N (x1)
def R93 (F147 : Nat → Int → Option (List UInt8)) (F148 : Nat → Int → Option (List UInt8)) (F72 : Nat → Int → Option Int) (F89 : Nat → Int → Int → Option (List UInt8)) (N : Nat) (x1 : P10Sa) : Option (P2Sa) :=
  bindS (F89 N x1.2.2.2.2.1 10) (fun (y0 : List UInt8) => bindS (F72 N x1.1) (fun (y1 : Int) => jp (fun (y2 : PUnit) => some [])
 (fun K3 => br (decide (y1 = 1))
 (bindS (F147 N x1.2.1) (fun (y4 : List UInt8) => some ([y4, y0])))
 (br (decide (y1 = 2))
 (br (decide (x1.1 = 3))
 (bindS (F147 N x1.2.1) (fun (y5 : List UInt8) => some ([y5, y0])))
 (bindS (F147 N x1.2.1) (fun (y6 : List UInt8) => bindS (F147 N x1.2.2.1) (fun (y7 : List UInt8) => some ([y6, y7, y0])))))
 (br (decide (y1 = 6))
 (bindS (F147 N x1.2.1) (fun (y8 : List UInt8) => bindS (F147 N x1.2.2.1) (fun (y9 : List UInt8) => some ([y8, y9, y0]))))
 (br (decide (y1 = 3))
 (bindS (F147 N x1.2.2.1) (fun (y10 : List UInt8) => bindS (F147 N x1.2.2.2.1) (fun (y11 : List UInt8) => some ([y10, y11, y0]))))
 (br (decide (y1 = 4))
 (bindS (F147 N x1.2.1) (fun (y12 : List UInt8) => chk (decide (y0.length + ([40] : List UInt8).length ≤ 9223372036854775807)) (bindS (F147 N x1.2.2.1) (fun (y13 : List UInt8) => chk (decide ((y0 ++ ([40] : List UInt8)).length + y13.length ≤ 9223372036854775807)) (chk (decide ((y0 ++ ([40] : List UInt8) ++ y13).length + ([41] : List UInt8).length ≤ 9223372036854775807)) (some ([y12, y0 ++ ([40] : List UInt8) ++ y13 ++ ([41] : List UInt8)])))))))
 (br (decide (y1 = 5))
 (bindS (F147 N x1.2.2.2.1) (fun (y14 : List UInt8) => chk (decide (y0.length + ([40] : List UInt8).length ≤ 9223372036854775807)) (bindS (F147 N x1.2.2.1) (fun (y15 : List UInt8) => chk (decide ((y0 ++ ([40] : List UInt8)).length + y15.length ≤ 9223372036854775807)) (chk (decide ((y0 ++ ([40] : List UInt8) ++ y15).length + ([41] : List UInt8).length ≤ 9223372036854775807)) (some ([y14, y0 ++ ([40] : List UInt8) ++ y15 ++ ([41] : List UInt8)])))))))
 (br (decide (y1 = 7))
 (bindS (F147 N x1.2.1) (fun (y16 : List UInt8) => bindS (F147 N x1.2.2.1) (fun (y17 : List UInt8) => bindS (F147 N x1.2.2.2.1) (fun (y18 : List UInt8) => some ([y16, y17, y18])))))
 (br (decide (y1 = 8))
 (br (decide (x1.1 = 50))
 (bindS (F148 N x1.2.2.2.2.2.2.2.1) (fun (y19 : List UInt8) => bindS (F148 N x1.2.2.2.2.2.2.2.2) (fun (y20 : List UInt8) => some ([y19, y20]))))
 (K3 ()))
 (br (decide (y1 = 10))
 (bindS (F147 N x1.2.1) (fun (y21 : List UInt8) => bindS (F147 N x1.2.2.1) (fun (y22 : List UInt8) => chk (decide (([40] : List UInt8).length + y22.length ≤ 9223372036854775807)) (chk (decide ((([40] : List UInt8) ++ y22).length + ([41] : List UInt8).length ≤ 9223372036854775807)) (some ([y21, ([40] : List UInt8) ++ y22 ++ ([41] : List UInt8)]))))))
 (jp (fun (y23 : Bool) => br y23
 (bindS (F147 N x1.2.1) (fun (y24 : List UInt8) => bindS (F147 N x1.2.2.2.1) (fun (y25 : List UInt8) => bindS (F147 N x1.2.2.1) (fun (y26 : List UInt8) => chk (decide (([40] : List UInt8).length + y26.length ≤ 9223372036854775807)) (chk (decide ((([40] : List UInt8) ++ y26).length + ([41] : List UInt8).length ≤ 9223372036854775807)) (some ([y24, y25, ([40] : List UInt8) ++ y26 ++ ([41] : List UInt8)])))))))
 (K3 ()))
 (fun K27 => br (decide (y1 = 11))
 (K27 true)
 (K27 (decide (y1 = 12))))))))))))))))
theorem e93 : g93' = R93 g147' g148' g72' g89' := by kernel_rfl
def F93 : Nat → P10Sa → Option (P2Sa) := R93 F147 F148 F72 F89
theorem F93_eq : g93' = F93 := by
  rw [e93, F147_eq, F148_eq, F72_eq, F89_eq, F93]
def g188' (N : Nat)  : Option (P2Sa) := f188 N ()
def F188 (N : Nat)  : Option (P2Sa) :=
  some ([[], ([108, 117, 105] : List UInt8), ([97, 117, 105, 112, 99] : List UInt8), ([106, 97, 108] : List UInt8), ([106, 97, 108, 114] : List UInt8), ([98, 101, 113] : List UInt8), ([98, 110, 101] : List UInt8), ([98, 108, 116] : List UInt8), ([98, 103, 101] : List UInt8), ([98, 108, 116, 117] : List UInt8), ([98, 103, 101, 117] : List UInt8), ([108, 98] : List UInt8), ([108, 104] : List UInt8), ([108, 119] : List UInt8), ([108, 100] : List UInt8), ([108, 98, 117] : List UInt8), ([108, 104, 117] : List UInt8), ([108, 119, 117] : List UInt8), ([115, 98] : List UInt8), ([115, 104] : List UInt8), ([115, 119] : List UInt8), ([115, 100] : List UInt8), ([97, 100, 100, 105] : List UInt8), ([115, 108, 116, 105] : List UInt8), ([115, 108, 116, 105, 117] : List UInt8), ([120, 111, 114, 105] : List UInt8), ([111, 114, 105] : List UInt8), ([97, 110, 100, 105] : List UInt8), ([115, 108, 108, 105] : List UInt8), ([115, 114, 108, 105] : List UInt8), ([115, 114, 97, 105] : List UInt8), ([97, 100, 100, 105, 119] : List UInt8), ([115, 108, 108, 105, 119] : List UInt8), ([115, 114, 108, 105, 119] : List UInt8), ([115, 114, 97, 105, 119] : List UInt8), ([97, 100, 100] : List UInt8), ([115, 117, 98] : List UInt8), ([115, 108, 108] : List UInt8), ([115, 108, 116] : List UInt8), ([115, 108, 116, 117] : List UInt8), ([120, 111, 114] : List UInt8), ([115, 114, 108] : List UInt8), ([115, 114, 97] : List UInt8), ([111, 114] : List UInt8), ([97, 110, 100] : List UInt8), ([97, 100, 100, 119] : List UInt8), ([115, 117, 98, 119] : List UInt8), ([115, 108, 108, 119] : List UInt8), ([115, 114, 108, 119] : List UInt8), ([115, 114, 97, 119] : List UInt8), ([102, 101, 110, 99, 101] : List UInt8), ([102, 101, 110, 99, 101, 46, 116, 115, 111] : List UInt8), ([101, 99, 97, 108, 108] : List UInt8), ([101, 98, 114, 101, 97, 107] : List UInt8), ([108, 114, 46, 119] : List UInt8), ([108, 114, 46, 100] : List UInt8), ([115, 99, 46, 119] : List UInt8), ([115, 99, 46, 100] : List UInt8), ([97, 109, 111, 115, 119, 97, 112, 46, 119] : List UInt8), ([97, 109, 111, 97, 100, 100, 46, 119] : List UInt8), ([97, 109, 111, 120, 111, 114, 46, 119] : List UInt8), ([97, 109, 111, 97, 110, 100, 46, 119] : List UInt8), ([97, 109, 111, 111, 114, 46, 119] : List UInt8), ([97, 109, 111, 109, 105, 110, 46, 119] : List UInt8), ([97, 109, 111, 109, 97, 120, 46, 119] : List UInt8), ([97, 109, 111, 109, 105, 110, 117, 46, 119] : List UInt8), ([97, 109, 111, 109, 97, 120, 117, 46, 119] : List UInt8), ([97, 109, 111, 115, 119, 97, 112, 46, 100] : List UInt8), ([97, 109, 111, 97, 100, 100, 46, 100] : List UInt8), ([97, 109, 111, 120, 111, 114, 46, 100] : List UInt8), ([97, 109, 111, 97, 110, 100, 46, 100] : List UInt8), ([97, 109, 111, 111, 114, 46, 100] : List UInt8), ([97, 109, 111, 109, 105, 110, 46, 100] : List UInt8), ([97, 109, 111, 109, 97, 120, 46, 100] : List UInt8), ([97, 109, 111, 109, 105, 110, 117, 46, 100] : List UInt8), ([97, 109, 111, 109, 97, 120, 117, 46, 100] : List UInt8)])
theorem F188_eq : g188' = F188 := by kernel_rfl
def g149' (N : Nat) (x1 : Int) : Option (List UInt8) := f149 N (x1)
def R149 (F188 : Nat → Option (P2Sa)) (F72 : Nat → Int → Option Int) (N : Nat) (x1 : Int) : Option (List UInt8) :=
  bindS (F72 N x1) (fun (y0 : Int) => br (decide (y0 = 0))
 (some [])
 (bindS (F188 N ) (fun (y1 : P2Sa) => chk (decide (0 ≤ x1) && decide (x1 < (↑76 : Int))) (some (y1.getD x1.toNat [])))))
theorem e149 : g149' = R149 g188' g72' := by kernel_rfl
def F149 : Nat → Int → Option (List UInt8) := R149 F188 F72
theorem F149_eq : g149' = F149 := by
  rw [e149, F188_eq, F72_eq, F149]
def g94' (N : Nat) (x1 : P10Sa) : Option (List UInt8) := f94 N (x1)
def R94 (F149 : Nat → Int → Option (List UInt8)) (N : Nat) (x1 : P10Sa) : Option (List UInt8) :=
  bindS (F149 N x1.1) (fun (y0 : List UInt8) => jp (fun (y1 : Bool) => br y1
 (chk (decide (y0.length + ([46, 97, 113, 114, 108] : List UInt8).length ≤ 9223372036854775807)) (some (y0 ++ ([46, 97, 113, 114, 108] : List UInt8))))
 (br x1.2.2.2.2.2.1
 (chk (decide (y0.length + ([46, 97, 113] : List UInt8).length ≤ 9223372036854775807)) (some (y0 ++ ([46, 97, 113] : List UInt8))))
 (br x1.2.2.2.2.2.2.1
 (chk (decide (y0.length + ([46, 114, 108] : List UInt8).length ≤ 9223372036854775807)) (some (y0 ++ ([46, 114, 108] : List UInt8))))
 (some y0))))
 (fun K2 => br x1.2.2.2.2.2.1
 (K2 x1.2.2.2.2.2.2.1)
 (K2 false)))
theorem e94 : g94' = R94 g149' := by kernel_rfl
def F94 : Nat → P10Sa → Option (List UInt8) := R94 F149
theorem F94_eq : g94' = F94 := by
  rw [e94, F149_eq, F94]
def g95' (N : Nat) (x1 : List UInt8) (x2 : List (List UInt8)) : Option (List UInt8) := f95 N (x1, x2)
def F95 (N : Nat) (x1 : List UInt8) (x2 : List (List UInt8)) : Option (List UInt8) := joinS N (x1, x2)
theorem F95_eq : g95' = F95 := rfl
def g39' (N : Nat) (x1 : P10Sa) : Option (List UInt8) := f39 N (x1)
def R39 (F93 : Nat → P10Sa → Option (P2Sa)) (F94 : Nat → P10Sa → Option (List UInt8)) (F95 : Nat → (List UInt8) → (List (List UInt8)) → Option (List UInt8)) (N : Nat) (x1 : P10Sa) : Option (List UInt8) :=
  bindS (F93 N x1) (fun (y0 : P2Sa) => br (decide ((↑y0.length : Int) = 0))
 (bindS (F94 N x1) (fun (y1 : List UInt8) => some y1))
 (bindS (F94 N x1) (fun (y2 : List UInt8) => chk (decide (y2.length + ([32] : List UInt8).length ≤ 9223372036854775807)) (bindS (F95 N (([44, 32] : List UInt8)) y0) (fun (y3 : List UInt8) => chk (decide ((y2 ++ ([32] : List UInt8)).length + y3.length ≤ 9223372036854775807)) (some (y2 ++ ([32] : List UInt8) ++ y3)))))))
theorem e39 : g39' = R39 g93' g94' g95' := by kernel_rfl
def F39 : Nat → P10Sa → Option (List UInt8) := R39 F93 F94 F95
theorem F39_eq : g39' = F39 := by
  rw [e39, F93_eq, F94_eq, F95_eq, F39]
def g13' (N : Nat) (x1 : P10Sa) : Option (P3Sa) := f13 N (x1)
def R13 (F38 : Nat → P10Sa → Option Bool) (F39 : Nat → P10Sa → Option (List UInt8)) (N : Nat) (x1 : P10Sa) : Option (P3Sa) :=
  bindS (F38 N x1) (fun (y0 : Bool) => br (!y0)
 (some (([], 1)))
 (bindS (F39 N x1) (fun (y1 : List UInt8) => some ((y1, 0)))))
theorem e13 : g13' = R13 g38' g39' := by kernel_rfl
def F13 : Nat → P10Sa → Option (P3Sa) := R13 F38 F39
theorem F13_eq : g13' = F13 := by
  rw [e13, F38_eq, F39_eq, F13]
def g58' (N : Nat) (x1 : Int) (x2 : Int) : Option (List UInt8) := f58 N (x1, x2)
def F58 (N : Nat) (x1 : Int) (x2 : Int) : Option (List UInt8) := fuintS N (x1, x2)
theorem F58_eq : g58' = F58 := rfl
def g20' (N : Nat) (x1 : List Int) : Option (P2Sa) := f20 N (x1)
def R20 (F13 : Nat → P10Sa → Option (P3Sa)) (F55 : Nat → (List Int) → Option Int) (F56 : Nat → Int → Option (P10Sa × Int)) (F57 : Nat → P10Sa → Option (Int × Int)) (F58 : Nat → Int → Int → Option (List UInt8)) (F59 : Nat → Int → Option (List UInt8)) (N : Nat) (x1 : List Int) : Option (P2Sa) :=
  fixN N (fun again0 (y1 : (List Int) × P2Sa) => br (decide (4 ≤ (↑y1.1.length : Int)))
 (jp (fun (y2 : P2Sa) => chk (Nat.ble (4) y1.1.length && y1.1.length.ble y1.1.length) (again0 ((List.take (y1.1.length - 4) (List.drop (0 + 4) y1.1), y2))))
 (fun K3 => chk (Nat.ble (4) y1.1.length) (bindS (F55 N ((List.take (4 - 0) (List.drop (0 + 0) y1.1)))) (fun (y4 : Int) => jp (fun (y5 : PUnit) => bindS (F58 N (u64.wrap (u32.wrap y4)) 10) (fun (y6 : List UInt8) => chk (decide (([46, 119, 111, 114, 100, 32] : List UInt8).length + y6.length ≤ 9223372036854775807)) (chk (decide ((y1.2.length + [([46, 119, 111, 114, 100, 32] : List UInt8) ++ y6].length) * 16 ≤ lim)) (K3 (y1.2 ++ [([46, 119, 111, 114, 100, 32] : List UInt8) ++ y6])))))
 (fun K7 => bindS (F56 N ((u32.wrap y4))) (fun (y8 : P10Sa × Int) => br (decide (y8.2 = 0))
 (bindS (F57 N y8.1) (fun (y9 : Int × Int) => br (decide (y9.1 = u32.wrap y4))
 (bindS (F13 N y8.1) (fun (y10 : P3Sa) => chk (decide ((y1.2.length + [y10.1].length) * 16 ≤ lim)) (K3 (y1.2 ++ [y10.1]))))
 (K7 ())))
 (K7 ())))))))
 (fixN N (fun again11 (y12 : Int × P2Sa) => br (decide (y12.1 < (↑y1.1.length : Int)))
 (chk (decide (0 ≤ y12.1) && decide (y12.1 < (↑y1.1.length : Int))) (bindS (F59 N ((i64.wrap (y1.1.getD y12.1.toNat 0)))) (fun (y13 : List UInt8) => chk (decide (([46, 98, 121, 116, 101, 32] : List UInt8).length + y13.length ≤ 9223372036854775807)) (chk (decide ((y12.2.length + [([46, 98, 121, 116, 101, 32] : List UInt8) ++ y13].length) * 16 ≤ lim)) (again11 ((i64.wrap (y12.1 + 1), y12.2 ++ [([46, 98, 121, 116, 101, 32] : List UInt8) ++ y13])))))))
 (some y12.2))
 ((0, y1.2))))
 ((x1, []))
theorem e20 : g20' = R20 g13' g55' g56' g57' g58' g59' := by kernel_rfl
def F20 : Nat → (List Int) → Option (P2Sa) := R20 F13 F55 F56 F57 F58 F59
theorem F20_eq : g20' = F20 := by
  rw [e20, F13_eq, F55_eq, F56_eq, F57_eq, F58_eq, F59_eq, F20]
def g60' (N : Nat) (x1 : List Int) : Option Int := f60 N (x1)
def F60 (N : Nat) (x1 : List Int) : Option Int :=
  fixN N (fun again0 (y1 : P0Sa) => jp (fun (y2 : Bool) => br y2
 (chk (decide (0 ≤ y1.2.2) && decide (y1.2.2 < (↑x1.length : Int))) (again0 ((u64.wrap (y1.1 + u64.wrap (y1.2.1 * u64.wrap (x1.getD y1.2.2.toNat 0))), (u64.wrap (y1.2.1 * 256), i64.wrap (y1.2.2 + 1))))))
 (some y1.1))
 (fun K3 => br (decide (y1.2.2 < (↑x1.length : Int)))
 (K3 (decide (y1.2.2 < 8)))
 (K3 false)))
 ((0, (1, 0)))
theorem F60_eq : g60' = F60 := by kernel_rfl
def g40' (N : Nat) (x1 : Int) : Option Int := f40 N (x1)
def F40 (N : Nat) (x1 : Int) : Option Int :=
  br (decide (x1 < 1))
 (some (0))
 (fixN N (fun again0 (y1 : Int × Int) => br (decide (y1.2 < (↑[2, 2, 6, 7, 4, 13, 15, 2, 2, 2, 2, 18].length : Int)))
 (chk (decide (0 ≤ y1.2) && decide (y1.2 < (↑[2, 2, 6, 7, 4, 13, 15, 2, 2, 2, 2, 18].length : Int))) (br (decide (y1.1 ≤ [2, 2, 6, 7, 4, 13, 15, 2, 2, 2, 2, 18].getD y1.2.toNat 0))
 (some (i64.wrap (y1.2 + 1)))
 (chk (decide (0 ≤ y1.2) && decide (y1.2 < (↑[2, 2, 6, 7, 4, 13, 15, 2, 2, 2, 2, 18].length : Int))) (again0 ((i64.wrap (y1.1 - [2, 2, 6, 7, 4, 13, 15, 2, 2, 2, 2, 18].getD y1.2.toNat 0), i64.wrap (y1.2 + 1)))))))
 (some (0)))
 ((x1, 0)))
theorem F40_eq : g40' = F40 := by kernel_rfl
def g96' (N : Nat)  : Option (P2Sa) := f96 N ()
def F96 (N : Nat)  : Option (P2Sa) :=
  some ([([108, 117, 105] : List UInt8), ([97, 117, 105, 112, 99] : List UInt8), ([106, 97, 108] : List UInt8), ([106, 97, 108, 114] : List UInt8), ([98, 101, 113] : List UInt8), ([98, 110, 101] : List UInt8), ([98, 108, 116] : List UInt8), ([98, 103, 101] : List UInt8), ([98, 108, 116, 117] : List UInt8), ([98, 103, 101, 117] : List UInt8), ([108, 98] : List UInt8), ([108, 104] : List UInt8), ([108, 119] : List UInt8), ([108, 100] : List UInt8), ([108, 98, 117] : List UInt8), ([108, 104, 117] : List UInt8), ([108, 119, 117] : List UInt8), ([115, 98] : List UInt8), ([115, 104] : List UInt8), ([115, 119] : List UInt8), ([115, 100] : List UInt8), ([97, 100, 100, 105] : List UInt8), ([115, 108, 116, 105] : List UInt8), ([115, 108, 116, 105, 117] : List UInt8), ([120, 111, 114, 105] : List UInt8), ([111, 114, 105] : List UInt8), ([97, 110, 100, 105] : List UInt8), ([115, 108, 108, 105] : List UInt8), ([115, 114, 108, 105] : List UInt8), ([115, 114, 97, 105] : List UInt8), ([97, 100, 100, 105, 119] : List UInt8), ([115, 108, 108, 105, 119] : List UInt8), ([115, 114, 108, 105, 119] : List UInt8), ([115, 114, 97, 105, 119] : List UInt8), ([97, 100, 100] : List UInt8), ([115, 117, 98] : List UInt8), ([115, 108, 108] : List UInt8), ([115, 108, 116] : List UInt8), ([115, 108, 116, 117] : List UInt8), ([120, 111, 114] : List UInt8), ([115, 114, 108] : List UInt8), ([115, 114, 97] : List UInt8), ([111, 114] : List UInt8), ([97, 110, 100] : List UInt8), ([97, 100, 100, 119] : List UInt8), ([115, 117, 98, 119] : List UInt8), ([115, 108, 108, 119] : List UInt8), ([115, 114, 108, 119] : List UInt8), ([115, 114, 97, 119] : List UInt8), ([102, 101, 110, 99, 101] : List UInt8), ([102, 101, 110, 99, 101, 46, 116, 115, 111] : List UInt8), ([101, 99, 97, 108, 108] : List UInt8), ([101, 98, 114, 101, 97, 107] : List UInt8), ([108, 114, 46, 119] : List UInt8), ([108, 114, 46, 100] : List UInt8), ([115, 99, 46, 119] : List UInt8), ([115, 99, 46, 100] : List UInt8), ([97, 109, 111, 115, 119, 97, 112, 46, 119] : List UInt8), ([97, 109, 111, 97, 100, 100, 46, 119] : List UInt8), ([97, 109, 111, 120, 111, 114, 46, 119] : List UInt8), ([97, 109, 111, 97, 110, 100, 46, 119] : List UInt8), ([97, 109, 111, 111, 114, 46, 119] : List UInt8), ([97, 109, 111, 109, 105, 110, 46, 119] : List UInt8), ([97, 109, 111, 109, 97, 120, 46, 119] : List UInt8), ([97, 109, 111, 109, 105, 110, 117, 46, 119] : List UInt8), ([97, 109, 111, 109, 97, 120, 117, 46, 119] : List UInt8), ([97, 109, 111, 115, 119, 97, 112, 46, 100] : List UInt8), ([97, 109, 111, 97, 100, 100, 46, 100] : List UInt8), ([97, 109, 111, 120, 111, 114, 46, 100] : List UInt8), ([97, 109, 111, 97, 110, 100, 46, 100] : List UInt8), ([97, 109, 111, 111, 114, 46, 100] : List UInt8), ([97, 109, 111, 109, 105, 110, 46, 100] : List UInt8), ([97, 109, 111, 109, 97, 120, 46, 100] : List UInt8), ([97, 109, 111, 109, 105, 110, 117, 46, 100] : List UInt8), ([97, 109, 111, 109, 97, 120, 117, 46, 100] : List UInt8)])
theorem F96_eq : g96' = F96 := by kernel_rfl
def g47' (N : Nat) (x1 : Int) : Option (List UInt8) := f47 N (x1)
def R47 (F96 : Nat → Option (P2Sa)) (N : Nat) (x1 : Int) : Option (List UInt8) :=
  bindS (F96 N ) (fun (y0 : P2Sa) => jp (fun (y1 : Bool) => br y1
 (some [])
 (chk (decide (0 ≤ i64.wrap (x1 - 1)) && decide (i64.wrap (x1 - 1) < (↑y0.length : Int))) (some (y0.getD (i64.wrap (x1 - 1)).toNat []))))
 (fun K2 => br (decide (x1 < 1))
 (K2 true)
 (K2 (decide ((↑y0.length : Int) < x1)))))
theorem e47 : g47' = R47 g96' := by kernel_rfl
def F47 : Nat → Int → Option (List UInt8) := R47 F96
theorem F47_eq : g47' = F47 := by
  rw [e47, F96_eq, F47]
def g115' (N : Nat) (x1 : Int) : Option Int := f115 N (x1)
def R115 (F40 : Nat → Int → Option Int) (F47 : Nat → Int → Option (List UInt8)) (N : Nat) (x1 : Int) : Option Int :=
  bindS (F47 N x1) (fun (y0 : List UInt8) => bindS (F40 N x1) (fun (y1 : Int) => br (decide (y1 = 0))
 (some (0))
 (chk (decide (0 ≤ i64.wrap ((↑y0.length : Int) - 1)) && decide (i64.wrap ((↑y0.length : Int) - 1) < (↑y0.length : Int))) (br (y0 == ([108, 117, 105] : List UInt8))
 (some (55))
 (br (y0 == ([97, 117, 105, 112, 99] : List UInt8))
 (some (23))
 (br (y0 == ([106, 97, 108] : List UInt8))
 (some (111))
 (br (y0 == ([106, 97, 108, 114] : List UInt8))
 (some (103))
 (br (decide (y1 = 3))
 (some (99))
 (br (decide (y1 = 4))
 (some (3))
 (br (decide (y1 = 5))
 (some (35))
 (jp (fun (y2 : Bool) => br y2
 (some (27))
 (br (decide (y1 = 6))
 (some (19))
 (jp (fun (y3 : Bool) => br y3
 (some (59))
 (br (decide (y1 = 7))
 (some (51))
 (br (decide (y1 = 8))
 (some (15))
 (br (decide (y1 = 9))
 (some (115))
 (some (47))))))
 (fun K4 => br (decide (y1 = 7))
 (K4 (decide ((↑(y0.getD (i64.wrap ((↑y0.length : Int) - 1)).toNat 0).toNat : Int) = 119)))
 (K4 false)))))
 (fun K5 => br (decide (y1 = 6))
 (K5 (decide ((↑(y0.getD (i64.wrap ((↑y0.length : Int) - 1)).toNat 0).toNat : Int) = 119)))
 (K5 false)))))))))))))
theorem e115 : g115' = R115 g40' g47' := by kernel_rfl
def F115 : Nat → Int → Option Int := R115 F40 F47
theorem F115_eq : g115' = F115 := by
  rw [e115, F40_eq, F47_eq, F115]
def g116' (N : Nat) (x1 : Int) : Option Int := f116 N (x1)
def R116 (F40 : Nat → Int → Option Int) (F47 : Nat → Int → Option (List UInt8)) (N : Nat) (x1 : Int) : Option Int :=
  bindS (F40 N x1) (fun (y0 : Int) => bindS (F47 N x1) (fun (y1 : List UInt8) => br (decide (y0 = 3))
 (chk (decide (0 ≤ i64.wrap (x1 - 5)) && decide (i64.wrap (x1 - 5) < (↑[0, 1, 4, 5, 6, 7].length : Int))) (some ([0, 1, 4, 5, 6, 7].getD (i64.wrap (x1 - 5)).toNat 0)))
 (br (decide (y0 = 4))
 (some (u32.wrap (i64.wrap (x1 - 11))))
 (br (decide (y0 = 5))
 (some (u32.wrap (i64.wrap (x1 - 18))))
 (jp (fun (y2 : Bool) => br y2
 (chk (decide (0 ≤ i64.wrap ((↑y1.length : Int) - 1)) && decide (i64.wrap ((↑y1.length : Int) - 1) < (↑y1.length : Int))) (br (decide ((↑(y1.getD (i64.wrap ((↑y1.length : Int) - 1)).toNat 0).toNat : Int) = 119))
 (some (2))
 (some (3))))
 (jp (fun (y3 : Bool) => br y3
 (some (0))
 (jp (fun (y4 : Bool) => br y4
 (some (1))
 (jp (fun (y5 : Bool) => br y5
 (some (2))
 (jp (fun (y6 : Bool) => br y6
 (some (3))
 (jp (fun (y7 : Bool) => br y7
 (some (4))
 (jp (fun (y8 : Bool) => br y8
 (some (5))
 (jp (fun (y9 : Bool) => br y9
 (some (6))
 (jp (fun (y10 : Bool) => br y10
 (some (7))
 (some (0)))
 (fun K11 => br (y1 == ([97, 110, 100] : List UInt8))
 (K11 true)
 (K11 (y1 == ([97, 110, 100, 105] : List UInt8))))))
 (fun K12 => br (y1 == ([111, 114] : List UInt8))
 (K12 true)
 (K12 (y1 == ([111, 114, 105] : List UInt8))))))
 (fun K13 => br (y1 == ([115, 114, 108] : List UInt8))
 (K13 true)
 (br (y1 == ([115, 114, 108, 105] : List UInt8))
 (K13 true)
 (br (y1 == ([115, 114, 108, 119] : List UInt8))
 (K13 true)
 (br (y1 == ([115, 114, 108, 105, 119] : List UInt8))
 (K13 true)
 (br (y1 == ([115, 114, 97] : List UInt8))
 (K13 true)
 (br (y1 == ([115, 114, 97, 105] : List UInt8))
 (K13 true)
 (br (y1 == ([115, 114, 97, 119] : List UInt8))
 (K13 true)
 (K13 (y1 == ([115, 114, 97, 105, 119] : List UInt8))))))))))))
 (fun K14 => br (y1 == ([120, 111, 114] : List UInt8))
 (K14 true)
 (K14 (y1 == ([120, 111, 114, 105] : List UInt8))))))
 (fun K15 => br (y1 == ([115, 108, 116, 117] : List UInt8))
 (K15 true)
 (K15 (y1 == ([115, 108, 116, 105, 117] : List UInt8))))))
 (fun K16 => br (y1 == ([115, 108, 116] : List UInt8))
 (K16 true)
 (K16 (y1 == ([115, 108, 116, 105] : List UInt8))))))
 (fun K17 => br (y1 == ([115, 108, 108] : List UInt8))
 (K17 true)
 (br (y1 == ([115, 108, 108, 105] : List UInt8))
 (K17 true)
 (br (y1 == ([115, 108, 108, 119] : List UInt8))
 (K17 true)
 (K17 (y1 == ([115, 108, 108, 105, 119] : List UInt8))))))))
 (fun K18 => br (!decide (y0 = 6))
 (K18 (!decide (y0 = 7)))
 (K18 false))))
 (fun K19 => br (decide (y0 = 10))
 (K19 true)
 (br (decide (y0 = 11))
 (K19 true)
 (K19 (decide (y0 = 12))))))))))
theorem e116 : g116' = R116 g40' g47' := by kernel_rfl
def F116 : Nat → Int → Option Int := R116 F40 F47
theorem F116_eq : g116' = F116 := by
  rw [e116, F40_eq, F47_eq, F116]
def g117' (N : Nat) (x1 : Int) : Option Bool := f117 N (x1)
def R117 (F47 : Nat → Int → Option (List UInt8)) (N : Nat) (x1 : Int) : Option Bool :=
  bindS (F47 N x1) (fun (y0 : List UInt8) => jp (fun (y1 : Bool) => some y1)
 (fun K2 => br (y0 == ([115, 117, 98] : List UInt8))
 (K2 true)
 (br (y0 == ([115, 117, 98, 119] : List UInt8))
 (K2 true)
 (br (y0 == ([115, 114, 97] : List UInt8))
 (K2 true)
 (br (y0 == ([115, 114, 97, 105] : List UInt8))
 (K2 true)
 (br (y0 == ([115, 114, 97, 119] : List UInt8))
 (K2 true)
 (K2 (y0 == ([115, 114, 97, 105, 119] : List UInt8)))))))))
theorem e117 : g117' = R117 g47' := by kernel_rfl
def F117 : Nat → Int → Option Bool := R117 F47
theorem F117_eq : g117' = F117 := by
  rw [e117, F47_eq, F117]
def g44' (N : Nat) (x1 : Int) : Option Int := f44 N (x1)
def R44 (F47 : Nat → Int → Option (List UInt8)) (N : Nat) (x1 : Int) : Option Int :=
  bindS (F47 N x1) (fun (y0 : List UInt8) => jp (fun (y1 : Bool) => br y1
 (some (6))
 (jp (fun (y2 : Bool) => br y2
 (some (5))
 (some (0)))
 (fun K3 => br (y0 == ([115, 108, 108, 105, 119] : List UInt8))
 (K3 true)
 (br (y0 == ([115, 114, 108, 105, 119] : List UInt8))
 (K3 true)
 (K3 (y0 == ([115, 114, 97, 105, 119] : List UInt8)))))))
 (fun K4 => br (y0 == ([115, 108, 108, 105] : List UInt8))
 (K4 true)
 (br (y0 == ([115, 114, 108, 105] : List UInt8))
 (K4 true)
 (K4 (y0 == ([115, 114, 97, 105] : List UInt8))))))
theorem e44 : g44' = R44 g47' := by kernel_rfl
def F44 : Nat → Int → Option Int := R44 F47
theorem F44_eq : g44' = F44 := by
  rw [e44, F47_eq, F44]
def g119' (N : Nat) (x1 : Int) : Option Int := f119 N (x1)
def F119 (N : Nat) (x1 : Int) : Option Int :=
  jp (fun (y0 : Bool) => br y0
 (some (2))
 (jp (fun (y1 : Bool) => br y1
 (some (3))
 (chk (decide (0 ≤ (i64.wrap (x1 - 58)).tmod 9) && decide ((i64.wrap (x1 - 58)).tmod 9 < (↑[1, 0, 4, 12, 8, 16, 20, 24, 28].length : Int))) (some ([1, 0, 4, 12, 8, 16, 20, 24, 28].getD ((i64.wrap (x1 - 58)).tmod 9).toNat 0))))
 (fun K2 => br (decide (x1 = 56))
 (K2 true)
 (K2 (decide (x1 = 57))))))
 (fun K3 => br (decide (x1 = 54))
 (K3 true)
 (K3 (decide (x1 = 55))))
theorem F119_eq : g119' = F119 := by kernel_rfl
def g113' (N : Nat) (x1 : Int) (x2 : Int) : Option Bool := f113 N (x1, x2)
def R113 (F115 : Nat → Int → Option Int) (F116 : Nat → Int → Option Int) (F117 : Nat → Int → Option Bool) (F119 : Nat → Int → Option Int) (F40 : Nat → Int → Option Int) (F44 : Nat → Int → Option Int) (N : Nat) (x1 : Int) (x2 : Int) : Option Bool :=
  bindS (F40 N x2) (fun (y0 : Int) => bindS (F115 N x2) (fun (y1 : Int) => br (!decide (x1.tmod 128 = y1))
 (some false)
 (jp (fun (y2 : Bool) => br y2
 (some true)
 (br (decide (y0 = 9))
 (jp (fun (y3 : Bool) => some y3)
 (fun K4 => br (decide (x1 = 115))
 (br (decide (x2 = 52))
 (K4 true)
 (br (decide (x1 = 1048691))
 (K4 (decide (x2 = 53)))
 (K4 false)))
 (br (decide (x1 = 1048691))
 (K4 (decide (x2 = 53)))
 (K4 false))))
 (br (decide (y0 = 8))
 (jp (fun (y5 : Bool) => some y5)
 (fun K6 => br (decide ((x1.fdiv (2 ^ Min.min (12) u32.bits)).tmod 8 = 0))
 (K6 (decide (x1.fdiv (2 ^ Min.min (20) u32.bits) = 2099) == decide (x2 = 51)))
 (K6 false)))
 (bindS (F116 N x2) (fun (y7 : Int) => br (!decide ((x1.fdiv (2 ^ Min.min (12) u32.bits)).tmod 8 = y7))
 (some false)
 (jp (fun (y8 : Int) => jp (fun (y9 : Bool) => br y9
 (some (decide (x1.fdiv (2 ^ Min.min (25) u32.bits) = y8)))
 (bindS (F44 N x2) (fun (y10 : Int) => br (decide (y10 = 6))
 (some (decide (u32.wrap ((x1.fdiv (2 ^ Min.min (25) u32.bits)).tdiv 2) = u32.wrap (y8.tdiv 2))))
 (br (decide (y0 = 10))
 (jp (fun (y11 : Bool) => some y11)
 (fun K12 => br (decide (x1.fdiv (2 ^ Min.min (27) u32.bits) = 2))
 (K12 (decide ((x1.fdiv (2 ^ Min.min (20) u32.bits)).tmod 32 = 0)))
 (K12 false)))
 (br (decide (10 < y0))
 (bindS (F119 N x2) (fun (y13 : Int) => some (decide (x1.fdiv (2 ^ Min.min (27) u32.bits) = y13))))
 (some true))))))
 (fun K14 => br (decide (y0 = 7))
 (K14 true)
 (bindS (F44 N x2) (fun (y15 : Int) => K14 (decide (y15 = 5))))))
 (fun K16 => bindS (F117 N x2) (fun (y17 : Bool) => br y17
 (K16 (32))
 (K16 (0))))))))))
 (fun K18 => br (decide (y0 = 1))
 (K18 true)
 (K18 (decide (x2 = 3)))))))
theorem e113 : g113' = R113 g115' g116' g117' g119' g40' g44' := by kernel_rfl
def F113 : Nat → Int → Int → Option Bool := R113 F115 F116 F117 F119 F40 F44
theorem F113_eq : g113' = F113 := by
  rw [e113, F115_eq, F116_eq, F117_eq, F119_eq, F40_eq, F44_eq, F113]
def g41' (N : Nat) (x1 : Int) : Option Bool := f41 N (x1)
def R41 (F40 : Nat → Int → Option Int) (N : Nat) (x1 : Int) : Option Bool :=
  bindS (F40 N x1) (fun (y0 : Int) => jp (fun (y1 : Bool) => some y1)
 (fun K2 => br (!decide (y0 = 0))
 (br (!decide (y0 = 3))
 (br (!decide (y0 = 5))
 (br (!decide (y0 = 8))
 (K2 (!decide (y0 = 9)))
 (K2 false))
 (K2 false))
 (K2 false))
 (K2 false)))
theorem e41 : g41' = R41 g40' := by kernel_rfl
def F41 : Nat → Int → Option Bool := R41 F40
theorem F41_eq : g41' = F41 := by
  rw [e41, F40_eq, F41]
def g42' (N : Nat) (x1 : Int) : Option Bool := f42 N (x1)
def R42 (F40 : Nat → Int → Option Int) (F47 : Nat → Int → Option (List UInt8)) (N : Nat) (x1 : Int) : Option Bool :=
  bindS (F40 N x1) (fun (y0 : Int) => jp (fun (y1 : Bool) => some y1)
 (fun K2 => bindS (F47 N x1) (fun (y3 : List UInt8) => br (y3 == ([106, 97, 108, 114] : List UInt8))
 (K2 true)
 (br (decide (3 ≤ y0))
 (br (decide (y0 ≤ 7))
 (K2 true)
 (K2 (decide (10 ≤ y0))))
 (K2 (decide (10 ≤ y0)))))))
theorem e42 : g42' = R42 g40' g47' := by kernel_rfl
def F42 : Nat → Int → Option Bool := R42 F40 F47
theorem F42_eq : g42' = F42 := by
  rw [e42, F40_eq, F47_eq, F42]
def g43' (N : Nat) (x1 : Int) : Option Bool := f43 N (x1)
def R43 (F40 : Nat → Int → Option Int) (N : Nat) (x1 : Int) : Option Bool :=
  bindS (F40 N x1) (fun (y0 : Int) => jp (fun (y1 : Bool) => some y1)
 (fun K2 => br (decide (y0 = 3))
 (K2 true)
 (br (decide (y0 = 5))
 (K2 true)
 (br (decide (y0 = 7))
 (K2 true)
 (K2 (decide (11 ≤ y0)))))))
theorem e43 : g43' = R43 g40' := by kernel_rfl
def F43 : Nat → Int → Option Bool := R43 F40
theorem F43_eq : g43' = F43 := by
  rw [e43, F40_eq, F43]
def g45' (N : Nat) (x1 : Int) : Option Int := f45 N (x1)
def R45 (F40 : Nat → Int → Option Int) (F44 : Nat → Int → Option Int) (N : Nat) (x1 : Int) : Option Int :=
  bindS (F44 N x1) (fun (y0 : Int) => br (decide (0 < y0))
 (some (0))
 (bindS (F40 N x1) (fun (y1 : Int) => br (decide (y1 = 1))
 (some (4))
 (br (decide (y1 = 2))
 (br (decide (x1 = 3))
 (some (5))
 (some (1)))
 (br (decide (y1 = 3))
 (some (3))
 (jp (fun (y2 : Bool) => br y2
 (some (1))
 (br (decide (y1 = 5))
 (some (2))
 (some (0))))
 (fun K3 => br (decide (y1 = 4))
 (K3 true)
 (K3 (decide (y1 = 6))))))))))
theorem e45 : g45' = R45 g40' g44' := by kernel_rfl
def F45 : Nat → Int → Option Int := R45 F40 F44
theorem F45_eq : g45' = F45 := by
  rw [e45, F40_eq, F44_eq, F45]
def g173' (N : Nat) (x1 : Int) : Option (List Int) := f173 N (x1)
def F173 (N : Nat) (x1 : Int) : Option (List Int) :=
  fixN N (fun again0 (y1 : Int × List Int) => br (decide (y1.1 < 32))
 (jp (fun (y2 : Int) => chk (decide (0 ≤ y1.1) && decide (y1.1 < (↑32 : Int))) (again0 ((i64.wrap (y1.1 + 1), setD 0 y1.2 y1.1.toNat y2))))
 (fun K3 => br (decide (x1 = 1))
 (br (decide (20 ≤ y1.1))
 (K3 (i64.wrap (y1.1 - 20)))
 (K3 (-1)))
 (br (decide (x1 = 2))
 (jp (fun (y4 : Int) => jp (fun (y5 : Bool) => br y5
 (K3 (i64.wrap (y1.1 - 7)))
 (K3 y4))
 (fun K6 => br (decide (7 ≤ y1.1))
 (K6 (decide (y1.1 ≤ 11)))
 (K6 false)))
 (fun K7 => br (decide (25 ≤ y1.1))
 (K7 (i64.wrap (y1.1 - 20)))
 (K7 (-1))))
 (br (decide (x1 = 3))
 (jp (fun (y8 : Int) => jp (fun (y9 : Int) => jp (fun (y10 : Int) => jp (fun (y11 : Bool) => br y11
 (K3 (i64.wrap (y1.1 - 7)))
 (K3 y10))
 (fun K12 => br (decide (8 ≤ y1.1))
 (K12 (decide (y1.1 ≤ 11)))
 (K12 false)))
 (fun K13 => jp (fun (y14 : Bool) => br y14
 (K13 (i64.wrap (y1.1 - 20)))
 (K13 y9))
 (fun K15 => br (decide (25 ≤ y1.1))
 (K15 (decide (y1.1 ≤ 30)))
 (K15 false))))
 (fun K16 => br (decide (y1.1 = 7))
 (K16 (11))
 (K16 y8)))
 (fun K17 => br (decide (y1.1 = 31))
 (K17 (12))
 (K17 (-1))))
 (br (decide (x1 = 4))
 (br (decide (12 ≤ y1.1))
 (K3 y1.1)
 (K3 (-1)))
 (br (decide (x1 = 5))
 (jp (fun (y18 : Int) => jp (fun (y19 : Int) => jp (fun (y20 : Int) => jp (fun (y21 : Bool) => br y21
 (K3 (i64.wrap (y1.1 - 20)))
 (K3 y20))
 (fun K22 => br (decide (21 ≤ y1.1))
 (K22 (decide (y1.1 ≤ 30)))
 (K22 false)))
 (fun K23 => br (decide (y1.1 = 20))
 (K23 (11))
 (K23 y19)))
 (fun K24 => jp (fun (y25 : Bool) => br y25
 (K24 y1.1)
 (K24 y18))
 (fun K26 => br (decide (12 ≤ y1.1))
 (K26 (decide (y1.1 ≤ 19)))
 (K26 false))))
 (fun K27 => br (decide (y1.1 = 31))
 (K27 (20))
 (K27 (-1))))
 (K3 (-1))))))))
 (some y1.2))
 ((0, [0, 0, 0, 0, 0, 0, 0, 0, 0, 0, 0, 0, 0, 0, 0, 0, 0, 0, 0, 0, 0, 0, 0, 0, 0, 0, 0, 0, 0, 0, 0, 0]))
theorem F173_eq : g173' = F173 := by kernel_rfl
def g114' (N : Nat) (x1 : Int) (x2 : Int) : Option Int := f114 N (x1, x2)
def R114 (F173 : Nat → Int → Option (List Int)) (N : Nat) (x1 : Int) (x2 : Int) : Option Int :=
  bindS (F173 N x1) (fun (y0 : List Int) => fixN N (fun again1 (y2 : Int × Int) => br (decide (y2.2 < 32))
 (jp (fun (y3 : Int) => again1 ((y3, i64.wrap (y2.2 + 1))))
 (fun K4 => jp (fun (y5 : Bool) => br y5
 (K4 y2.1)
 (br (decide (y2.2 = 31))
 (chk (decide (0 ≤ y2.2) && decide (y2.2 < (↑32 : Int))) (chk (decide (0 ≤ u64.wrap (y0.getD y2.2.toNat 0))) (K4 (i64.wrap (y2.1 - i64.wrap (1 * 2 ^ Min.min (u64.wrap (y0.getD y2.2.toNat 0)).toNat i64.bits))))))
 (chk (decide (0 ≤ y2.2) && decide (y2.2 < (↑32 : Int))) (chk (decide (0 ≤ u64.wrap (y0.getD y2.2.toNat 0))) (K4 (i64.wrap (y2.1 + i64.wrap (1 * 2 ^ Min.min (u64.wrap (y0.getD y2.2.toNat 0)).toNat i64.bits))))))))
 (fun K6 => chk (decide (0 ≤ y2.2) && decide (y2.2 < (↑32 : Int))) (br (decide (y0.getD y2.2.toNat 0 < 0))
 (K6 true)
 (chk (decide (0 ≤ u64.wrap y2.2)) (K6 (decide (bits BinOp.and u32 (x2.fdiv (2 ^ Min.min (u64.wrap y2.2).toNat u32.bits)) 1 = 0))))))))
 (some y2.1))
 ((0, 0)))
theorem e114 : g114' = R114 g173' := by kernel_rfl
def F114 : Nat → Int → Int → Option Int := R114 F173
theorem F114_eq : g114' = F114 := by
  rw [e114, F173_eq, F114]
def g61' (N : Nat) (x1 : Int) : Option (P10Sa × Bool) := f61 N (x1)
def R61 (F113 : Nat → Int → Int → Option Bool) (F114 : Nat → Int → Int → Option Int) (F40 : Nat → Int → Option Int) (F41 : Nat → Int → Option Bool) (F42 : Nat → Int → Option Bool) (F43 : Nat → Int → Option Bool) (F44 : Nat → Int → Option Int) (F45 : Nat → Int → Option Int) (N : Nat) (x1 : Int) : Option (P10Sa × Bool) :=
  fixN N (fun again0 (y1 : Int) => br (decide (y1 ≤ 75))
 (bindS (F113 N x1 y1) (fun (y2 : Bool) => br (!y2)
 (again0 (i64.wrap (y1 + 1)))
 (jp (fun (y3 : P10Sa) => jp (fun (y4 : P10Sa) => jp (fun (y5 : P10Sa) => jp (fun (y6 : P10Sa) => jp (fun (y7 : P10Sa) => jp (fun (y8 : P10Sa) => jp (fun (y9 : P10Sa) => jp (fun (y10 : P10Sa) => jp (fun (y11 : P10Sa) => some ((y11, true)))
 (fun K12 => br (decide (y1 = 51))
 (K12 ((y10.1, (y10.2.1, (y10.2.2.1, (y10.2.2.2.1, (y10.2.2.2.2.1, (y10.2.2.2.2.2.1, (y10.2.2.2.2.2.2.1, (3, 3))))))))))
 (K12 y10)))
 (fun K13 => br (decide (y1 = 50))
 (K13 ((y9.1, (y9.2.1, (y9.2.2.1, (y9.2.2.2.1, (y9.2.2.2.2.1, (y9.2.2.2.2.2.1, (y9.2.2.2.2.2.2.1, (i64.wrap ((x1.fdiv (2 ^ Min.min (24) u32.bits)).tmod 16), i64.wrap ((x1.fdiv (2 ^ Min.min (20) u32.bits)).tmod 16)))))))))))
 (K13 y9)))
 (fun K14 => bindS (F40 N y1) (fun (y15 : Int) => br (decide (10 ≤ y15))
 (K14 ((y8.1, (y8.2.1, (y8.2.2.1, (y8.2.2.2.1, (y8.2.2.2.2.1, (decide ((x1.fdiv (2 ^ Min.min (26) u32.bits)).tmod 2 = 1), (decide ((x1.fdiv (2 ^ Min.min (25) u32.bits)).tmod 2 = 1), y8.2.2.2.2.2.2.2)))))))))
 (K14 y8))))
 (fun K16 => bindS (F44 N y1) (fun (y17 : Int) => br (decide (y17 = 5))
 (K16 ((y7.1, (y7.2.1, (y7.2.2.1, (y7.2.2.2.1, (i64.wrap ((x1.fdiv (2 ^ Min.min (20) u32.bits)).tmod 32), y7.2.2.2.2.2)))))))
 (K16 y7))))
 (fun K18 => bindS (F44 N y1) (fun (y19 : Int) => br (decide (y19 = 6))
 (K18 ((y6.1, (y6.2.1, (y6.2.2.1, (y6.2.2.2.1, (i64.wrap ((x1.fdiv (2 ^ Min.min (20) u32.bits)).tmod 64), y6.2.2.2.2.2)))))))
 (K18 y6))))
 (fun K20 => bindS (F45 N y1) (fun (y21 : Int) => br (decide (0 < y21))
 (bindS (F45 N y1) (fun (y22 : Int) => bindS (F114 N y22 x1) (fun (y23 : Int) => K20 ((y5.1, (y5.2.1, (y5.2.2.1, (y5.2.2.2.1, (y23, y5.2.2.2.2.2)))))))))
 (K20 y5))))
 (fun K24 => bindS (F43 N y1) (fun (y25 : Bool) => br y25
 (K24 ((y4.1, (y4.2.1, (y4.2.2.1, (i64.wrap ((x1.fdiv (2 ^ Min.min (20) u32.bits)).tmod 32), y4.2.2.2.2))))))
 (K24 y4))))
 (fun K26 => bindS (F42 N y1) (fun (y27 : Bool) => br y27
 (K26 ((y3.1, (y3.2.1, (i64.wrap ((x1.fdiv (2 ^ Min.min (15) u32.bits)).tmod 32), y3.2.2.2)))))
 (K26 y3))))
 (fun K28 => bindS (F41 N y1) (fun (y29 : Bool) => br y29
 (K28 ((y1, (i64.wrap ((x1.fdiv (2 ^ Min.min (7) u32.bits)).tmod 32), (0, (0, (0, (false, (false, (0, 0))))))))))
 (K28 ((y1, (0, (0, (0, (0, (false, (false, (0, 0)))))))))))))))
 (some (((0, (0, (0, (0, (0, (false, (false, (0, 0)))))))), false))))
 (1)
theorem e61 : g61' = R61 g113' g114' g40' g41' g42' g43' g44' g45' := by kernel_rfl
def F61 : Nat → Int → Option (P10Sa × Bool) := R61 F113 F114 F40 F41 F42 F43 F44 F45
theorem F61_eq : g61' = F61 := by
  rw [e61, F113_eq, F114_eq, F40_eq, F41_eq, F42_eq, F43_eq, F44_eq, F45_eq, F61]
def g118' (N : Nat) (x1 : Int) (x2 : Int) : Option Int := f118 N (x1, x2)
def R118 (F173 : Nat → Int → Option (List Int)) (N : Nat) (x1 : Int) (x2 : Int) : Option Int :=
  bindS (F173 N x1) (fun (y0 : List Int) => fixN N (fun again1 (y2 : Int × Int) => br (decide (y2.2 < 32))
 (jp (fun (y3 : Int) => again1 ((y3, i64.wrap (y2.2 + 1))))
 (fun K4 => jp (fun (y5 : Bool) => br y5
 (chk (decide (0 ≤ u64.wrap y2.2)) (K4 (u32.wrap (y2.1 + u32.wrap (1 * 2 ^ Min.min (u64.wrap y2.2).toNat u32.bits)))))
 (K4 y2.1))
 (fun K6 => chk (decide (0 ≤ y2.2) && decide (y2.2 < (↑32 : Int))) (br (decide (0 ≤ y0.getD y2.2.toNat 0))
 (chk (decide (0 ≤ y2.2) && decide (y2.2 < (↑32 : Int))) (chk (decide (0 ≤ u64.wrap (y0.getD y2.2.toNat 0))) (K6 (decide (bits BinOp.and u64 ((u64.wrap x2).fdiv (2 ^ Min.min (u64.wrap (y0.getD y2.2.toNat 0)).toNat u64.bits)) 1 = 1)))))
 (K6 false)))))
 (some y2.1))
 ((0, 0)))
theorem e118 : g118' = R118 g173' := by kernel_rfl
def F118 : Nat → Int → Int → Option Int := R118 F173
theorem F118_eq : g118' = F118 := by
  rw [e118, F173_eq, F118]
def g62' (N : Nat) (x1 : P10Sa) : Option Int := f62 N (x1)
def R62 (F115 : Nat → Int → Option Int) (F116 : Nat → Int → Option Int) (F117 : Nat → Int → Option Bool) (F118 : Nat → Int → Int → Option Int) (F119 : Nat → Int → Option Int) (F40 : Nat → Int → Option Int) (F44 : Nat → Int → Option Int) (F45 : Nat → Int → Option Int) (N : Nat) (x1 : P10Sa) : Option Int :=
  bindS (F40 N x1.1) (fun (y0 : Int) => bindS (F115 N x1.1) (fun (y1 : Int) => bindS (F116 N x1.1) (fun (y2 : Int) => jp (fun (y3 : Int) => jp (fun (y4 : Int) => jp (fun (y5 : Int) => jp (fun (y6 : Int) => some y6)
 (fun K7 => br (decide (10 ≤ y0))
 (bindS (F119 N x1.1) (fun (y8 : Int) => jp (fun (y9 : Int) => br x1.2.2.2.2.2.2.1
 (K7 (u32.wrap (y9 + 33554432)))
 (K7 y9))
 (fun K10 => br x1.2.2.2.2.2.1
 (K10 (u32.wrap (u32.wrap (y5 + u32.wrap (y8 * 134217728)) + 67108864)))
 (K10 (u32.wrap (y5 + u32.wrap (y8 * 134217728)))))))
 (br (decide (x1.1 = 50))
 (K7 (u32.wrap (u32.wrap (y5 + u32.wrap (u32.wrap x1.2.2.2.2.2.2.2.1 * 16777216)) + u32.wrap (u32.wrap x1.2.2.2.2.2.2.2.2 * 1048576))))
 (br (decide (x1.1 = 51))
 (some (2200961039))
 (br (decide (x1.1 = 53))
 (K7 (u32.wrap (y5 + 1048576)))
 (K7 y5))))))
 (fun K11 => bindS (F45 N x1.1) (fun (y12 : Int) => br (decide (0 < y12))
 (bindS (F118 N y12 x1.2.2.2.2.1) (fun (y13 : Int) => K11 (u32.wrap (y4 + y13))))
 (K11 y4))))
 (fun K14 => bindS (F44 N x1.1) (fun (y15 : Int) => br (decide (0 < y15))
 (K14 (u32.wrap (y3 + u32.wrap (u32.wrap x1.2.2.2.2.1 * 1048576))))
 (K14 y3))))
 (fun K16 => bindS (F117 N x1.1) (fun (y17 : Bool) => br y17
 (K16 (u32.wrap (u32.wrap (u32.wrap (u32.wrap (u32.wrap (y1 + u32.wrap (u32.wrap x1.2.1 * 128)) + u32.wrap (y2 * 4096)) + u32.wrap (u32.wrap x1.2.2.1 * 32768)) + u32.wrap (u32.wrap x1.2.2.2.1 * 1048576)) + 1073741824)))
 (K16 (u32.wrap (u32.wrap (u32.wrap (u32.wrap (y1 + u32.wrap (u32.wrap x1.2.1 * 128)) + u32.wrap (y2 * 4096)) + u32.wrap (u32.wrap x1.2.2.1 * 32768)) + u32.wrap (u32.wrap x1.2.2.2.1 * 1048576)))))))))
theorem e62 : g62' = R62 g115' g116' g117' g118' g119' g40' g44' g45' := by kernel_rfl
def F62 : Nat → P10Sa → Option Int := R62 F115 F116 F117 F118 F119 F40 F44 F45
theorem F62_eq : g62' = F62 := by
  rw [e62, F115_eq, F116_eq, F117_eq, F118_eq, F119_eq, F40_eq, F44_eq, F45_eq, F62]
def g48' (N : Nat) (x1 : Int) : Option (List UInt8) := f48 N (x1)
def F48 (N : Nat) (x1 : Int) : Option (List UInt8) :=
  jp (fun (y0 : Int) => fixN N (fun again1 (y2 : P3Sa) => chk (decide ((List.map (fun n => UInt8.ofNat n.toNat) [u8.wrap (u64.wrap (48 + y2.2.tmod 10))]).length + y2.1.length ≤ 9223372036854775807)) (br (decide (u64.wrap (y2.2.tdiv 10) = 0))
 (jp (fun (y3 : List UInt8) => some y3)
 (fun K4 => br (decide (x1 < 0))
 (chk (decide (([45] : List UInt8).length + (List.map (fun n => UInt8.ofNat n.toNat) [u8.wrap (u64.wrap (48 + y2.2.tmod 10))] ++ y2.1).length ≤ 9223372036854775807)) (K4 (([45] : List UInt8) ++ (List.map (fun n => UInt8.ofNat n.toNat) [u8.wrap (u64.wrap (48 + y2.2.tmod 10))] ++ y2.1))))
 (K4 (List.map (fun n => UInt8.ofNat n.toNat) [u8.wrap (u64.wrap (48 + y2.2.tmod 10))] ++ y2.1))))
 (again1 ((List.map (fun n => UInt8.ofNat n.toNat) [u8.wrap (u64.wrap (48 + y2.2.tmod 10))] ++ y2.1, u64.wrap (y2.2.tdiv 10))))))
 (([], y0)))
 (fun K5 => br (decide (x1 < 0))
 (K5 (u64.wrap (0 - u64.wrap x1)))
 (K5 (u64.wrap x1)))
theorem F48_eq : g48' = F48 := by kernel_rfl
def g49' (N : Nat) (x1 : Int) : Option (List UInt8) := f49 N (x1)
def F49 (N : Nat) (x1 : Int) : Option (List UInt8) :=
  jp (fun (y0 : List UInt8) => jp (fun (y1 : List UInt8) => jp (fun (y2 : List UInt8) => jp (fun (y3 : List UInt8) => br (y3 == [])
 (some (([48] : List UInt8)))
 (some y3))
 (fun K4 => br (decide (x1.tmod 2 = 1))
 (chk (decide (y2.length + ([119] : List UInt8).length ≤ 9223372036854775807)) (K4 (y2 ++ ([119] : List UInt8))))
 (K4 y2)))
 (fun K5 => br (decide ((i64.wrap (x1.tdiv 2)).tmod 2 = 1))
 (chk (decide (y1.length + ([114] : List UInt8).length ≤ 9223372036854775807)) (K5 (y1 ++ ([114] : List UInt8))))
 (K5 y1)))
 (fun K6 => br (decide ((i64.wrap (x1.tdiv 4)).tmod 2 = 1))
 (chk (decide (y0.length + ([111] : List UInt8).length ≤ 9223372036854775807)) (K6 (y0 ++ ([111] : List UInt8))))
 (K6 y0)))
 (fun K7 => br (decide ((i64.wrap (x1.tdiv 8)).tmod 2 = 1))
 (K7 ([] ++ ([105] : List UInt8)))
 (K7 []))
theorem F49_eq : g49' = F49 := by kernel_rfl
def g15' (N : Nat) (x1 : P10Sa) : Option (List UInt8) := f15 N (x1)
def R15 (F40 : Nat → Int → Option Int) (F47 : Nat → Int → Option (List UInt8)) (F48 : Nat → Int → Option (List UInt8)) (F49 : Nat → Int → Option (List UInt8)) (N : Nat) (x1 : P10Sa) : Option (List UInt8) :=
  bindS (F40 N x1.1) (fun (y0 : Int) => bindS (F47 N x1.1) (fun (y1 : List UInt8) => jp (fun (y2 : List UInt8) => jp (fun (y3 : List UInt8) => jp (fun (y4 : List UInt8) => bindS (F48 N x1.2.1) (fun (y5 : List UInt8) => chk (decide (([120] : List UInt8).length + y5.length ≤ 9223372036854775807)) (bindS (F48 N x1.2.2.1) (fun (y6 : List UInt8) => chk (decide (([120] : List UInt8).length + y6.length ≤ 9223372036854775807)) (bindS (F48 N x1.2.2.2.1) (fun (y7 : List UInt8) => chk (decide (([120] : List UInt8).length + y7.length ≤ 9223372036854775807)) (bindS (F48 N x1.2.2.2.2.1) (fun (y8 : List UInt8) => jp (fun (y9 : Bool) => br y9
 (chk (decide (y4.length + ([32] : List UInt8).length ≤ 9223372036854775807)) (chk (decide ((y4 ++ ([32] : List UInt8)).length + (([120] : List UInt8) ++ y5).length ≤ 9223372036854775807)) (chk (decide ((y4 ++ ([32] : List UInt8) ++ (([120] : List UInt8) ++ y5)).length + ([44, 32] : List UInt8).length ≤ 9223372036854775807)) (chk (decide ((y4 ++ ([32] : List UInt8) ++ (([120] : List UInt8) ++ y5) ++ ([44, 32] : List UInt8)).length + y8.length ≤ 9223372036854775807)) (some (y4 ++ ([32] : List UInt8) ++ (([120] : List UInt8) ++ y5) ++ ([44, 32] : List UInt8) ++ y8))))))
 (jp (fun (y10 : Bool) => br y10
 (chk (decide (y4.length + ([32] : List UInt8).length ≤ 9223372036854775807)) (chk (decide ((y4 ++ ([32] : List UInt8)).length + (([120] : List UInt8) ++ y5).length ≤ 9223372036854775807)) (chk (decide ((y4 ++ ([32] : List UInt8) ++ (([120] : List UInt8) ++ y5)).length + ([44, 32] : List UInt8).length ≤ 9223372036854775807)) (chk (decide ((y4 ++ ([32] : List UInt8) ++ (([120] : List UInt8) ++ y5) ++ ([44, 32] : List UInt8)).length + (([120] : List UInt8) ++ y6).length ≤ 9223372036854775807)) (chk (decide ((y4 ++ ([32] : List UInt8) ++ (([120] : List UInt8) ++ y5) ++ ([44, 32] : List UInt8) ++ (([120] : List UInt8) ++ y6)).length + ([44, 32] : List UInt8).length ≤ 9223372036854775807)) (chk (decide ((y4 ++ ([32] : List UInt8) ++ (([120] : List UInt8) ++ y5) ++ ([44, 32] : List UInt8) ++ (([120] : List UInt8) ++ y6) ++ ([44, 32] : List UInt8)).length + y8.length ≤ 9223372036854775807)) (some (y4 ++ ([32] : List UInt8) ++ (([120] : List UInt8) ++ y5) ++ ([44, 32] : List UInt8) ++ (([120] : List UInt8) ++ y6) ++ ([44, 32] : List UInt8) ++ y8))))))))
 (br (decide (y0 = 3))
 (chk (decide (y4.length + ([32] : List UInt8).length ≤ 9223372036854775807)) (chk (decide ((y4 ++ ([32] : List UInt8)).length + (([120] : List UInt8) ++ y6).length ≤ 9223372036854775807)) (chk (decide ((y4 ++ ([32] : List UInt8) ++ (([120] : List UInt8) ++ y6)).length + ([44, 32] : List UInt8).length ≤ 9223372036854775807)) (chk (decide ((y4 ++ ([32] : List UInt8) ++ (([120] : List UInt8) ++ y6) ++ ([44, 32] : List UInt8)).length + (([120] : List UInt8) ++ y7).length ≤ 9223372036854775807)) (chk (decide ((y4 ++ ([32] : List UInt8) ++ (([120] : List UInt8) ++ y6) ++ ([44, 32] : List UInt8) ++ (([120] : List UInt8) ++ y7)).length + ([44, 32] : List UInt8).length ≤ 9223372036854775807)) (chk (decide ((y4 ++ ([32] : List UInt8) ++ (([120] : List UInt8) ++ y6) ++ ([44, 32] : List UInt8) ++ (([120] : List UInt8) ++ y7) ++ ([44, 32] : List UInt8)).length + y8.length ≤ 9223372036854775807)) (some (y4 ++ ([32] : List UInt8) ++ (([120] : List UInt8) ++ y6) ++ ([44, 32] : List UInt8) ++ (([120] : List UInt8) ++ y7) ++ ([44, 32] : List UInt8) ++ y8))))))))
 (br (decide (y0 = 4))
 (chk (decide (y4.length + ([32] : List UInt8).length ≤ 9223372036854775807)) (chk (decide ((y4 ++ ([32] : List UInt8)).length + (([120] : List UInt8) ++ y5).length ≤ 9223372036854775807)) (chk (decide ((y4 ++ ([32] : List UInt8) ++ (([120] : List UInt8) ++ y5)).length + ([44, 32] : List UInt8).length ≤ 9223372036854775807)) (chk (decide ((y4 ++ ([32] : List UInt8) ++ (([120] : List UInt8) ++ y5) ++ ([44, 32] : List UInt8)).length + y8.length ≤ 9223372036854775807)) (chk (decide ((y4 ++ ([32] : List UInt8) ++ (([120] : List UInt8) ++ y5) ++ ([44, 32] : List UInt8) ++ y8).length + ([40] : List UInt8).length ≤ 9223372036854775807)) (chk (decide ((y4 ++ ([32] : List UInt8) ++ (([120] : List UInt8) ++ y5) ++ ([44, 32] : List UInt8) ++ y8 ++ ([40] : List UInt8)).length + (([120] : List UInt8) ++ y6).length ≤ 9223372036854775807)) (chk (decide ((y4 ++ ([32] : List UInt8) ++ (([120] : List UInt8) ++ y5) ++ ([44, 32] : List UInt8) ++ y8 ++ ([40] : List UInt8) ++ (([120] : List UInt8) ++ y6)).length + ([41] : List UInt8).length ≤ 9223372036854775807)) (some (y4 ++ ([32] : List UInt8) ++ (([120] : List UInt8) ++ y5) ++ ([44, 32] : List UInt8) ++ y8 ++ ([40] : List UInt8) ++ (([120] : List UInt8) ++ y6) ++ ([41] : List UInt8))))))))))
 (br (decide (y0 = 5))
 (chk (decide (y4.length + ([32] : List UInt8).length ≤ 9223372036854775807)) (chk (decide ((y4 ++ ([32] : List UInt8)).length + (([120] : List UInt8) ++ y7).length ≤ 9223372036854775807)) (chk (decide ((y4 ++ ([32] : List UInt8) ++ (([120] : List UInt8) ++ y7)).length + ([44, 32] : List UInt8).length ≤ 9223372036854775807)) (chk (decide ((y4 ++ ([32] : List UInt8) ++ (([120] : List UInt8) ++ y7) ++ ([44, 32] : List UInt8)).length + y8.length ≤ 9223372036854775807)) (chk (decide ((y4 ++ ([32] : List UInt8) ++ (([120] : List UInt8) ++ y7) ++ ([44, 32] : List UInt8) ++ y8).length + ([40] : List UInt8).length ≤ 9223372036854775807)) (chk (decide ((y4 ++ ([32] : List UInt8) ++ (([120] : List UInt8) ++ y7) ++ ([44, 32] : List UInt8) ++ y8 ++ ([40] : List UInt8)).length + (([120] : List UInt8) ++ y6).length ≤ 9223372036854775807)) (chk (decide ((y4 ++ ([32] : List UInt8) ++ (([120] : List UInt8) ++ y7) ++ ([44, 32] : List UInt8) ++ y8 ++ ([40] : List UInt8) ++ (([120] : List UInt8) ++ y6)).length + ([41] : List UInt8).length ≤ 9223372036854775807)) (some (y4 ++ ([32] : List UInt8) ++ (([120] : List UInt8) ++ y7) ++ ([44, 32] : List UInt8) ++ y8 ++ ([40] : List UInt8) ++ (([120] : List UInt8) ++ y6) ++ ([41] : List UInt8))))))))))
 (br (decide (y0 = 7))
 (chk (decide (y4.length + ([32] : List UInt8).length ≤ 9223372036854775807)) (chk (decide ((y4 ++ ([32] : List UInt8)).length + (([120] : List UInt8) ++ y5).length ≤ 9223372036854775807)) (chk (decide ((y4 ++ ([32] : List UInt8) ++ (([120] : List UInt8) ++ y5)).length + ([44, 32] : List UInt8).length ≤ 9223372036854775807)) (chk (decide ((y4 ++ ([32] : List UInt8) ++ (([120] : List UInt8) ++ y5) ++ ([44, 32] : List UInt8)).length + (([120] : List UInt8) ++ y6).length ≤ 9223372036854775807)) (chk (decide ((y4 ++ ([32] : List UInt8) ++ (([120] : List UInt8) ++ y5) ++ ([44, 32] : List UInt8) ++ (([120] : List UInt8) ++ y6)).length + ([44, 32] : List UInt8).length ≤ 9223372036854775807)) (chk (decide ((y4 ++ ([32] : List UInt8) ++ (([120] : List UInt8) ++ y5) ++ ([44, 32] : List UInt8) ++ (([120] : List UInt8) ++ y6) ++ ([44, 32] : List UInt8)).length + (([120] : List UInt8) ++ y7).length ≤ 9223372036854775807)) (some (y4 ++ ([32] : List UInt8) ++ (([120] : List UInt8) ++ y5) ++ ([44, 32] : List UInt8) ++ (([120] : List UInt8) ++ y6) ++ ([44, 32] : List UInt8) ++ (([120] : List UInt8) ++ y7)))))))))
 (br (decide (x1.1 = 50))
 (chk (decide (y4.length + ([32] : List UInt8).length ≤ 9223372036854775807)) (bindS (F49 N x1.2.2.2.2.2.2.2.1) (fun (y11 : List UInt8) => chk (decide ((y4 ++ ([32] : List UInt8)).length + y11.length ≤ 9223372036854775807)) (chk (decide ((y4 ++ ([32] : List UInt8) ++ y11).length + ([44, 32] : List UInt8).length ≤ 9223372036854775807)) (bindS (F49 N x1.2.2.2.2.2.2.2.2) (fun (y12 : List UInt8) => chk (decide ((y4 ++ ([32] : List UInt8) ++ y11 ++ ([44, 32] : List UInt8)).length + y12.length ≤ 9223372036854775807)) (some (y4 ++ ([32] : List UInt8) ++ y11 ++ ([44, 32] : List UInt8) ++ y12))))))))
 (br (decide (y0 = 10))
 (chk (decide (y4.length + ([32] : List UInt8).length ≤ 9223372036854775807)) (chk (decide ((y4 ++ ([32] : List UInt8)).length + (([120] : List UInt8) ++ y5).length ≤ 9223372036854775807)) (chk (decide ((y4 ++ ([32] : List UInt8) ++ (([120] : List UInt8) ++ y5)).length + ([44, 32, 40] : List UInt8).length ≤ 9223372036854775807)) (chk (decide ((y4 ++ ([32] : List UInt8) ++ (([120] : List UInt8) ++ y5) ++ ([44, 32, 40] : List UInt8)).length + (([120] : List UInt8) ++ y6).length ≤ 9223372036854775807)) (chk (decide ((y4 ++ ([32] : List UInt8) ++ (([120] : List UInt8) ++ y5) ++ ([44, 32, 40] : List UInt8) ++ (([120] : List UInt8) ++ y6)).length + ([41] : List UInt8).length ≤ 9223372036854775807)) (some (y4 ++ ([32] : List UInt8) ++ (([120] : List UInt8) ++ y5) ++ ([44, 32, 40] : List UInt8) ++ (([120] : List UInt8) ++ y6) ++ ([41] : List UInt8))))))))
 (br (decide (10 < y0))
 (chk (decide (y4.length + ([32] : List UInt8).length ≤ 9223372036854775807)) (chk (decide ((y4 ++ ([32] : List UInt8)).length + (([120] : List UInt8) ++ y5).length ≤ 9223372036854775807)) (chk (decide ((y4 ++ ([32] : List UInt8) ++ (([120] : List UInt8) ++ y5)).length + ([44, 32] : List UInt8).length ≤ 9223372036854775807)) (chk (decide ((y4 ++ ([32] : List UInt8) ++ (([120] : List UInt8) ++ y5) ++ ([44, 32] : List UInt8)).length + (([120] : List UInt8) ++ y7).length ≤ 9223372036854775807)) (chk (decide ((y4 ++ ([32] : List UInt8) ++ (([120] : List UInt8) ++ y5) ++ ([44, 32] : List UInt8) ++ (([120] : List UInt8) ++ y7)).length + ([44, 32, 40] : List UInt8).length ≤ 9223372036854775807)) (chk (decide ((y4 ++ ([32] : List UInt8) ++ (([120] : List UInt8) ++ y5) ++ ([44, 32] : List UInt8) ++ (([120] : List UInt8) ++ y7) ++ ([44, 32, 40] : List UInt8)).length + (([120] : List UInt8) ++ y6).length ≤ 9223372036854775807)) (chk (decide ((y4 ++ ([32] : List UInt8) ++ (([120] : List UInt8) ++ y5) ++ ([44, 32] : List UInt8) ++ (([120] : List UInt8) ++ y7) ++ ([44, 32, 40] : List UInt8) ++ (([120] : List UInt8) ++ y6)).length + ([41] : List UInt8).length ≤ 9223372036854775807)) (some (y4 ++ ([32] : List UInt8) ++ (([120] : List UInt8) ++ y5) ++ ([44, 32] : List UInt8) ++ (([120] : List UInt8) ++ y7) ++ ([44, 32, 40] : List UInt8) ++ (([120] : List UInt8) ++ y6) ++ ([41] : List UInt8))))))))))
 (some y4)))))))))
 (fun K13 => br (decide (y0 = 2))
 (K13 true)
 (K13 (decide (y0 = 6))))))
 (fun K14 => br (decide (y0 = 1))
 (K14 true)
 (K14 (decide (x1.1 = 3))))))))))))
 (fun K15 => br x1.2.2.2.2.2.2.1
 (chk (decide (y3.length + ([114, 108] : List UInt8).length ≤ 9223372036854775807)) (K15 (y3 ++ ([114, 108] : List UInt8))))
 (K15 y3)))
 (fun K16 => br x1.2.2.2.2.2.1
 (chk (decide (y2.length + ([97, 113] : List UInt8).length ≤ 9223372036854775807)) (K16 (y2 ++ ([97, 113] : List UInt8))))
 (K16 y2)))
 (fun K17 => jp (fun (y18 : Bool) => br y18
 (chk (decide (y1.length + ([46] : List UInt8).length ≤ 9223372036854775807)) (K17 (y1 ++ ([46] : List UInt8))))
 (K17 y1))
 (fun K19 => br x1.2.2.2.2.2.1
 (K19 true)
 (K19 x1.2.2.2.2.2.2.1)))))
theorem e15 : g15' = R15 g40' g47' g48' g49' := by kernel_rfl
def F15 : Nat → P10Sa → Option (List UInt8) := R15 F40 F47 F48 F49
theorem F15_eq : g15' = F15 := by
  rw [e15, F40_eq, F47_eq, F48_eq, F49_eq, F15]
def g21' (N : Nat) (x1 : List Int) : Option (P2Sa) := f21 N (x1)
def R21 (F15 : Nat → P10Sa → Option (List UInt8)) (F48 : Nat → Int → Option (List UInt8)) (F60 : Nat → (List Int) → Option Int) (F61 : Nat → Int → Option (P10Sa × Bool)) (F62 : Nat → P10Sa → Option Int) (N : Nat) (x1 : List Int) : Option (P2Sa) :=
  fixN N (fun again0 (y1 : (List Int) × P2Sa) => br (decide (4 ≤ (↑y1.1.length : Int)))
 (chk (Nat.ble (4) y1.1.length) (bindS (F60 N ((List.take (4 - 0) (List.drop (0 + 0) y1.1)))) (fun (y2 : Int) => bindS (F61 N ((u32.wrap y2))) (fun (y3 : P10Sa × Bool) => jp (fun (y4 : P2Sa) => chk (Nat.ble (4) y1.1.length && y1.1.length.ble y1.1.length) (again0 ((List.take (y1.1.length - 4) (List.drop (0 + 4) y1.1), y4))))
 (fun K5 => jp (fun (y6 : Bool) => br y6
 (bindS (F15 N y3.1) (fun (y7 : List UInt8) => chk (decide ((y1.2.length + [y7].length) * 16 ≤ lim)) (K5 (y1.2 ++ [y7]))))
 (bindS (F48 N ((i64.wrap (u32.wrap y2)))) (fun (y8 : List UInt8) => chk (decide (([46, 119, 111, 114, 100, 32] : List UInt8).length + y8.length ≤ 9223372036854775807)) (chk (decide ((y1.2.length + [([46, 119, 111, 114, 100, 32] : List UInt8) ++ y8].length) * 16 ≤ lim)) (K5 (y1.2 ++ [([46, 119, 111, 114, 100, 32] : List UInt8) ++ y8]))))))
 (fun K9 => br y3.2
 (bindS (F62 N y3.1) (fun (y10 : Int) => K9 (decide (y10 = u32.wrap y2))))
 (K9 false)))))))
 (fixN N (fun again11 (y12 : Int × P2Sa) => br (decide (y12.1 < (↑y1.1.length : Int)))
 (chk (decide (0 ≤ y12.1) && decide (y12.1 < (↑y1.1.length : Int))) (bindS (F48 N ((i64.wrap (y1.1.getD y12.1.toNat 0)))) (fun (y13 : List UInt8) => chk (decide (([46, 98, 121, 116, 101, 32] : List UInt8).length + y13.length ≤ 9223372036854775807)) (chk (decide ((y12.2.length + [([46, 98, 121, 116, 101, 32] : List UInt8) ++ y13].length) * 16 ≤ lim)) (again11 ((i64.wrap (y12.1 + 1), y12.2 ++ [([46, 98, 121, 116, 101, 32] : List UInt8) ++ y13])))))))
 (some y12.2))
 ((0, y1.2))))
 ((x1, []))
theorem e21 : g21' = R21 g15' g48' g60' g61' g62' := by kernel_rfl
def F21 : Nat → (List Int) → Option (P2Sa) := R21 F15 F48 F60 F61 F62
theorem F21_eq : g21' = F21 := by
  rw [e21, F15_eq, F48_eq, F60_eq, F61_eq, F62_eq, F21]
def g19' (N : Nat) (x1 : P2Sa) (x2 : P2Sa) : Option Bool := f19 N (x1, x2)
def F19 (N : Nat) (x1 : P2Sa) (x2 : P2Sa) : Option Bool :=
  br (!decide ((↑x1.length : Int) = (↑x2.length : Int)))
 (some false)
 (fixN N (fun again0 (y1 : Int) => br (decide (y1 < (↑x1.length : Int)))
 (chk (decide (0 ≤ y1) && decide (y1 < (↑x1.length : Int))) (chk (decide (0 ≤ y1) && decide (y1 < (↑x2.length : Int))) (br (!x1.getD y1.toNat [] == x2.getD y1.toNat [])
 (some false)
 (again0 (i64.wrap (y1 + 1))))))
 (some true))
 (0))
theorem F19_eq : g19' = F19 := by kernel_rfl
def g22' (N : Nat) (x1 : List UInt8) : Option Bool := f22 N (x1)
def F22 (N : Nat) (x1 : List UInt8) : Option Bool :=
  fixN N (fun again0 (y1 : Int) => br (decide (y1 < (↑x1.length : Int)))
 (chk (decide (0 ≤ y1) && decide (y1 < (↑x1.length : Int))) (jp (fun (y2 : Bool) => jp (fun (y3 : Bool) => br y3
 (some false)
 (again0 (i64.wrap (y1 + 1))))
 (fun K4 => br (!y2)
 (br (decide (y1 = 0))
 (K4 true)
 (br (!decide ((↑(x1.getD y1.toNat 0).toNat : Int) = 95))
 (br (decide ((↑(x1.getD y1.toNat 0).toNat : Int) < 48))
 (K4 true)
 (K4 (decide (57 < (↑(x1.getD y1.toNat 0).toNat : Int)))))
 (K4 false)))
 (K4 false)))
 (fun K5 => br (decide (97 ≤ (↑(x1.getD y1.toNat 0).toNat : Int)))
 (K5 (decide ((↑(x1.getD y1.toNat 0).toNat : Int) ≤ 122)))
 (K5 false))))
 (jp (fun (y6 : Bool) => some y6)
 (fun K7 => br (!x1 == [])
 (K7 (decide ((↑x1.length : Int) ≤ 16)))
 (K7 false))))
 (0)
theorem F22_eq : g22' = F22 := by kernel_rfl
def g23' (N : Nat) (x1 : List UInt8) : Option Bool := f23 N (x1)
def F23 (N : Nat) (x1 : List UInt8) : Option Bool :=
  jp (fun (y0 : Bool) => br y0
 (some false)
 (fixN N (fun again1 (y2 : Int) => br (decide (y2 < (↑x1.length : Int)))
 (chk (decide (0 ≤ y2) && decide (y2 < (↑x1.length : Int))) (jp (fun (y3 : Bool) => br y3
 (again1 (i64.wrap (y2 + 1)))
 (some false))
 (fun K4 => br (decide (97 ≤ (↑(x1.getD y2.toNat 0).toNat : Int)))
 (br (decide ((↑(x1.getD y2.toNat 0).toNat : Int) ≤ 122))
 (K4 true)
 (br (decide (0 < y2))
 (br (decide (48 ≤ (↑(x1.getD y2.toNat 0).toNat : Int)))
 (br (decide ((↑(x1.getD y2.toNat 0).toNat : Int) ≤ 57))
 (K4 true)
 (K4 (decide ((↑(x1.getD y2.toNat 0).toNat : Int) = 95))))
 (K4 (decide ((↑(x1.getD y2.toNat 0).toNat : Int) = 95))))
 (K4 false)))
 (br (decide (0 < y2))
 (br (decide (48 ≤ (↑(x1.getD y2.toNat 0).toNat : Int)))
 (br (decide ((↑(x1.getD y2.toNat 0).toNat : Int) ≤ 57))
 (K4 true)
 (K4 (decide ((↑(x1.getD y2.toNat 0).toNat : Int) = 95))))
 (K4 (decide ((↑(x1.getD y2.toNat 0).toNat : Int) = 95))))
 (K4 false)))))
 (some true))
 (0)))
 (fun K5 => br (decide ((↑x1.length : Int) < 1))
 (K5 true)
 (K5 (decide (16 < (↑x1.length : Int)))))
theorem F23_eq : g23' = F23 := by kernel_rfl
def g5' (N : Nat) (x1 : List UInt8) (x2 : List Int) : Option Bool := f5 N (x1, x2)
def R5 (F18 : Nat → Option Bool) (F19 : Nat → P2Sa → P2Sa → Option Bool) (F20 : Nat → (List Int) → Option (P2Sa)) (F21 : Nat → (List Int) → Option (P2Sa)) (F22 : Nat → (List UInt8) → Option Bool) (F23 : Nat → (List UInt8) → Option Bool) (N : Nat) (x1 : List UInt8) (x2 : List Int) : Option Bool :=
  bindS (F18 N ) (fun (y0 : Bool) => br (!y0)
 (some false)
 (jp (fun (y1 : Bool) => br y1
 (bindS (F18 N ) (fun (y2 : Bool) => some y2))
 (jp (fun (y3 : Bool) => some y3)
 (fun K4 => bindS (F18 N ) (fun (y5 : Bool) => br y5
 (bindS (F20 N x2) (fun (y6 : P2Sa) => bindS (F21 N x2) (fun (y7 : P2Sa) => bindS (F19 N y6 y7) (fun (y8 : Bool) => br y8
 (bindS (F22 N x1) (fun (y9 : Bool) => bindS (F23 N x1) (fun (y10 : Bool) => K4 (y9 == y10))))
 (K4 false)))))
 (K4 false)))))
 (fun K11 => br (decide (1100 < (↑x2.length : Int)))
 (K11 true)
 (K11 (decide (100 < (↑x1.length : Int)))))))
theorem e5 : g5' = R5 g18' g19' g20' g21' g22' g23' := by kernel_rfl
def F5 : Nat → (List UInt8) → (List Int) → Option Bool := R5 F18 F19 F20 F21 F22 F23
theorem F5_eq : g5' = F5 := by
  rw [e5, F18_eq, F19_eq, F20_eq, F21_eq, F22_eq, F23_eq, F5]
def g34' (N : Nat) (x1 : Int) : Option Int := f34 N (x1)
def R34 (F40 : Nat → Int → Option Int) (F47 : Nat → Int → Option (List UInt8)) (N : Nat) (x1 : Int) : Option Int :=
  bindS (F47 N x1) (fun (y0 : List UInt8) => bindS (F40 N x1) (fun (y1 : Int) => jp (fun (y2 : Bool) => br y2
 (some (0))
 (chk (decide (0 ≤ i64.wrap ((↑y0.length : Int) - 1)) && decide (i64.wrap ((↑y0.length : Int) - 1) < (↑y0.length : Int))) (jp (fun (y3 : Int) => br (decide (y3 = 98))
 (some (1))
 (br (decide (y3 = 104))
 (some (2))
 (br (decide (y3 = 119))
 (some (4))
 (some (8)))))
 (fun K4 => br (decide ((↑(y0.getD (i64.wrap ((↑y0.length : Int) - 1)).toNat 0).toNat : Int) = 117))
 (chk (decide (0 ≤ i64.wrap ((↑y0.length : Int) - 2)) && decide (i64.wrap ((↑y0.length : Int) - 2) < (↑y0.length : Int))) (K4 ((↑(y0.getD (i64.wrap ((↑y0.length : Int) - 2)).toNat 0).toNat : Int))))
 (K4 ((↑(y0.getD (i64.wrap ((↑y0.length : Int) - 1)).toNat 0).toNat : Int)))))))
 (fun K5 => br (decide (y1 < 4))
 (K5 true)
 (br (decide (5 < y1))
 (K5 (decide (y1 < 10)))
 (K5 false)))))
theorem e34 : g34' = R34 g40' g47' := by kernel_rfl
def F34 : Nat → Int → Option Int := R34 F40 F47
theorem F34_eq : g34' = F34 := by
  rw [e34, F40_eq, F47_eq, F34]
def g69' (N : Nat) (x1 : Int) : Option Bool := f69 N (x1)
def R69 (F72 : Nat → Int → Option Int) (N : Nat) (x1 : Int) : Option Bool :=
  bindS (F72 N x1) (fun (y0 : Int) => jp (fun (y1 : Bool) => br y1
 (some true)
 (some false))
 (fun K2 => br (decide (y0 = 4))
 (K2 true)
 (br (decide (y0 = 10))
 (K2 true)
 (K2 (decide (y0 = 12))))))
theorem e69 : g69' = R69 g72' := by kernel_rfl
def F69 : Nat → Int → Option Bool := R69 F72
theorem F69_eq : g69' = F69 := by
  rw [e69, F72_eq, F69]
def g73' (N : Nat) (x1 : Int) : Option Bool := f73 N (x1)
def R73 (F72 : Nat → Int → Option Int) (N : Nat) (x1 : Int) : Option Bool :=
  bindS (F72 N x1) (fun (y0 : Int) => jp (fun (y1 : Bool) => br y1
 (some true)
 (some false))
 (fun K2 => br (decide (y0 = 5))
 (K2 true)
 (br (decide (y0 = 11))
 (K2 true)
 (K2 (decide (y0 = 12))))))
theorem e73 : g73' = R73 g72' := by kernel_rfl
def F73 : Nat → Int → Option Bool := R73 F72
theorem F73_eq : g73' = F73 := by
  rw [e73, F72_eq, F73]
def g123' (N : Nat) (x1 : Int) : Option Bool := f123 N (x1)
def R123 (F71 : Nat → Int → Option Int) (N : Nat) (x1 : Int) : Option Bool :=
  bindS (F71 N x1) (fun (y0 : Int) => some (decide (0 < y0)))
theorem e123 : g123' = R123 g71' := by kernel_rfl
def F123 : Nat → Int → Option Bool := R123 F71
theorem F123_eq : g123' = F123 := by
  rw [e123, F71_eq, F123]
def g135' (N : Nat) (x1 : Int) : Option Int := f135 N (x1)
def F135 (N : Nat) (x1 : Int) : Option Int :=
  jp (fun (y0 : Bool) => br y0
 (some (0))
 (some x1))
 (fun K1 => br (decide (x1 < 0))
 (K1 true)
 (K1 (decide (31 < x1))))
theorem F135_eq : g135' = F135 := by kernel_rfl
def g82' (N : Nat) (x1 : P10Sa) : Option Int := f82 N (x1)
def R82 (F135 : Nat → Int → Option Int) (F41 : Nat → Int → Option Bool) (N : Nat) (x1 : P10Sa) : Option Int :=
  bindS (F41 N x1.1) (fun (y0 : Bool) => br (!y0)
 (some (0))
 (bindS (F135 N x1.2.1) (fun (y1 : Int) => some y1)))
theorem e82 : g82' = R82 g135' g41' := by kernel_rfl
def F82 : Nat → P10Sa → Option Int := R82 F135 F41
theorem F82_eq : g82' = F82 := by
  rw [e82, F135_eq, F41_eq, F82]
end
end Go.Proofs.YtkcfkegkhopakaaGreatDoor
