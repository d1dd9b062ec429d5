/- What the contracts' functions come to, as printed. No condition. -/
import Derived.Test.YtkcfkegkhopakaaGreatDoorConSg
import Derived.KernelRfl
namespace Go.Proofs.YtkcfkegkhopakaaGreatDoor
open Go Go.Ev Go.Sh
set_option maxRecDepth 100000
set_option linter.unusedVariables false
open Go.IntKind (i8 i16 i32 i64 u8 u16 u32 u64)
abbrev P0Sg := Int × Int × Int
abbrev P1Sg := Bool × Int × Int
abbrev P2Sg := (List Int) × Int
abbrev P3Sg := Int × Int × Bool
abbrev P4Sg := (List Int) × List Int
abbrev P5Sg := Int × Int × P0Sg
abbrev P6Sg := Int × Int × P3Sg
abbrev P7Sg := Int × Bool × P1Sg
abbrev P8Sg := Int × Int × P7Sg
abbrev P9Sg := Int × Int × P8Sg
abbrev P10Sg := P9Sg × Int × P6Sg
abbrev P11Sg := List (Int × P10Sg)
abbrev P12Sg := (List Int) × P11Sg
abbrev P13Sg := (Int × P2Sg) × Int × P10Sg
abbrev P14Sg := (Int × P2Sg) × P12Sg
noncomputable section
def g26' (N : Nat) : Option Bool := f26 N ()
def F26 (N : Nat) : Option Bool := some true
theorem F26_eq : g26' = F26 := rfl
def g85' (N : Nat) (x1 : List Int) : Option (List Int) := f85 N (x1)
def F85 (N : Nat) (x1 : List Int) : Option (List Int) :=
  br (decide ((↑x1.length : Int) = 0))
 (both (some []) (chk (decide ((([] : List Nat).length + x1.length) * 1 ≤ lim)) (some ([] ++ x1))))
 (chk (decide ((([] : List Nat).length + x1.length) * 1 ≤ lim)) (some ([] ++ x1)))
theorem F85_eq : g85' = F85 := by kernel_rfl
def g55' (N : Nat) (x1 : List Int) : Option Int := f55 N (x1)
def F55 (N : Nat) (x1 : List Int) : Option Int :=
  fixN N (fun again0 (y1 : Int × Int) => br (decide (0 ≤ y1.2))
 (chk (decide (0 ≤ y1.2) && decide (y1.2 < (↑x1.length : Int))) (again0 ((bits BinOp.or u64 (u64.wrap (y1.1 * 2 ^ Min.min (8) u64.bits)) (u64.wrap (x1.getD y1.2.toNat 0)), i64.wrap (y1.2 - 1)))))
 (some y1.1))
 ((0, i64.wrap ((if 8 < (↑x1.length : Int) then 8 else (↑x1.length : Int)) - 1)))
theorem F55_eq : g55' = F55 := by kernel_rfl
def g70' (N : Nat) (x1 : Int) (x2 : Int) : Option Int := f70 N (x1, x2)
def F70 (N : Nat) (x1 : Int) (x2 : Int) : Option Int :=
  br (decide (x2 < 1))
 (some (0))
 (br (decide (64 ≤ x2))
 (some x1)
 (chk (decide (0 ≤ x2)) (some (bits BinOp.and u64 x1 (u64.wrap (u64.wrap (1 * 2 ^ Min.min x2.toNat u64.bits) - 1))))))
theorem F70_eq : g70' = F70 := by kernel_rfl
def g168' (N : Nat) (x1 : Int) (x2 : Int) (x3 : Int) : Option Int := f168 N (x1, x2, x3)
def R168 (F70 : Nat → Int → Int → Option Int) (N : Nat) (x1 : Int) (x2 : Int) (x3 : Int) : Option Int :=
  jp (fun (y0 : Bool) => br y0
 (some (0))
 (chk (decide (0 ≤ x3)) (bindS (F70 N ((u64.wrap x1).fdiv (2 ^ Min.min x3.toNat u64.bits)) (i64.wrap (i64.wrap (x2 - x3) + 1))) (fun (y1 : Int) => some (u32.wrap y1)))))
 (fun K2 => br (decide (31 < x2))
 (K2 true)
 (br (decide (x2 < x3))
 (K2 true)
 (K2 (decide (x3 < 0)))))
theorem e168 : g168' = R168 g70' := by kernel_rfl
def F168 : Nat → Int → Int → Int → Option Int := R168 F70
theorem F168_eq : g168' = F168 := by
  rw [e168, F70_eq, F168]
def g167' (N : Nat) (x1 : Int) (x2 : Int) (x3 : Int) : Option Int := f167 N (x1, x2, x3)
def R167 (F168 : Nat → Int → Int → Int → Option Int) (N : Nat) (x1 : Int) (x2 : Int) (x3 : Int) : Option Int :=
  bindS (F168 N x3 x1 x2) (fun (y0 : Int) => some y0)
theorem e167 : g167' = R167 g168' := by kernel_rfl
def F167 : Nat → Int → Int → Int → Option Int := R167 F168
theorem F167_eq : g167' = F167 := by
  rw [e167, F168_eq, F167]
def g105' (N : Nat) (x1 : Int) : Option (Int × P5Sg) := f105 N (x1)
def R105 (F167 : Nat → Int → Int → Int → Option Int) (N : Nat) (x1 : Int) : Option (Int × P5Sg) :=
  bindS (F167 N 11 7 x1) (fun (y0 : Int) => bindS (F167 N 19 15 x1) (fun (y1 : Int) => bindS (F167 N 24 20 x1) (fun (y2 : Int) => bindS (F167 N 14 12 x1) (fun (y3 : Int) => bindS (F167 N 31 25 x1) (fun (y4 : Int) => some ((x1, (i64.wrap y0, (i64.wrap y1, (i64.wrap y2, (y3, y4)))))))))))
theorem e105 : g105' = R105 g167' := by kernel_rfl
def F105 : Nat → Int → Option (Int × P5Sg) := R105 F167
theorem F105_eq : g105' = F105 := by
  rw [e105, F167_eq, F105]
def g216' (N : Nat)  : Option (Int × Int × Int × Int × Int × Int × Int × Int × Int × Int × Int × Int × (List P0Sg) × (List P0Sg) × (List P0Sg) × (List P0Sg) × List P0Sg) := f216 N ()
def F216 (N : Nat)  : Option (Int × Int × Int × Int × Int × Int × Int × Int × Int × Int × Int × Int × (List P0Sg) × (List P0Sg) × (List P0Sg) × (List P0Sg) × List P0Sg) :=
  some ((0, (0, (12, (0, (12, (0, (13, (1, (32, (12, (21, (1, ([(31, 20, 0)], ([(31, 25, 5), (11, 7, 0)], ([(31, 31, 12), (7, 7, 11), (30, 25, 5), (11, 8, 1)], ([(31, 12, 12)], [(31, 31, 20), (19, 12, 12), (20, 20, 11), (30, 21, 1)])))))))))))))))))
theorem F216_eq : g216' = F216 := by kernel_rfl
def g187' (N : Nat) (x1 : Int) : Option (Int × Int × Bool × List P0Sg) := f187 N (x1)
def R187 (F216 : Nat → Option (Int × Int × Int × Int × Int × Int × Int × Int × Int × Int × Int × Int × (List P0Sg) × (List P0Sg) × (List P0Sg) × (List P0Sg) × List P0Sg)) (N : Nat) (x1 : Int) : Option (Int × Int × Bool × List P0Sg) :=
  jp (fun (y0 : Bool) => br y0
 (some ((0, (0, (false, [])))))
 (jp (fun (y1 : Bool × Int × Int × List P0Sg) => some ((y1.2.1, (y1.2.2.1, (y1.1, y1.2.2.2)))))
 (fun K2 => bindS (F216 N ) (fun (y3 : Int × Int × Int × Int × Int × Int × Int × Int × Int × Int × Int × Int × (List P0Sg) × (List P0Sg) × (List P0Sg) × (List P0Sg) × List P0Sg) => chk (decide (0 ≤ x1) && decide (x1 < (↑6 : Int))) (br (x1.toNat.beq 0)
 (K2 ((true, (y3.1, (y3.2.1, [])))))
 (br (x1.toNat.beq (0 + 1))
 (K2 ((true, (y3.2.2.1, (y3.2.2.2.1, y3.2.2.2.2.2.2.2.2.2.2.2.2.1)))))
 (br (x1.toNat.beq (0 + 1 + 1))
 (K2 ((true, (y3.2.2.2.2.1, (y3.2.2.2.2.2.1, y3.2.2.2.2.2.2.2.2.2.2.2.2.2.1)))))
 (br (x1.toNat.beq (0 + 1 + 1 + 1))
 (K2 ((true, (y3.2.2.2.2.2.2.1, (y3.2.2.2.2.2.2.2.1, y3.2.2.2.2.2.2.2.2.2.2.2.2.2.2.1)))))
 (br (x1.toNat.beq (0 + 1 + 1 + 1 + 1))
 (K2 ((true, (y3.2.2.2.2.2.2.2.2.1, (y3.2.2.2.2.2.2.2.2.2.1, y3.2.2.2.2.2.2.2.2.2.2.2.2.2.2.2.1)))))
 (K2 ((true, (y3.2.2.2.2.2.2.2.2.2.2.1, (y3.2.2.2.2.2.2.2.2.2.2.2.1, y3.2.2.2.2.2.2.2.2.2.2.2.2.2.2.2.2))))))))))))))
 (fun K4 => br (decide (x1 < 1))
 (K4 true)
 (K4 (decide (5 < x1))))
theorem e187 : g187' = R187 g216' := by kernel_rfl
def F187 : Nat → Int → Option (Int × Int × Bool × List P0Sg) := R187 F216
theorem F187_eq : g187' = F187 := by
  rw [e187, F216_eq, F187]
def g127' (N : Nat) (x1 : Int) (x2 : Int) : Option Int := f127 N (x1, x2)
def R127 (F70 : Nat → Int → Int → Option Int) (N : Nat) (x1 : Int) (x2 : Int) : Option Int :=
  jp (fun (y0 : Bool) => br y0
 (bindS (F70 N x1 x2) (fun (y1 : Int) => some y1))
 (chk (decide (0 ≤ i64.wrap (64 - x2))) (chk (decide (0 ≤ i64.wrap (64 - x2))) (some (u64.wrap ((i64.wrap (u64.wrap (x1 * 2 ^ Min.min (i64.wrap (64 - x2)).toNat u64.bits))).fdiv (2 ^ Min.min (i64.wrap (64 - x2)).toNat i64.bits)))))))
 (fun K2 => br (decide (x2 < 1))
 (K2 true)
 (K2 (decide (64 ≤ x2))))
theorem e127 : g127' = R127 g70' := by kernel_rfl
def F127 : Nat → Int → Int → Option Int := R127 F70
theorem F127_eq : g127' = F127 := by
  rw [e127, F70_eq, F127]
def g159' (N : Nat) (x1 : Int) (x2 : Int) : Option Int := f159 N (x1, x2)
def R159 (F127 : Nat → Int → Int → Option Int) (F168 : Nat → Int → Int → Int → Option Int) (F187 : Nat → Int → Option (Int × Int × Bool × List P0Sg)) (N : Nat) (x1 : Int) (x2 : Int) : Option Int :=
  bindS (F187 N x1) (fun (y0 : Int × Int × Bool × List P0Sg) => br (!y0.2.2.1)
 (some (0))
 (fixN N (fun again1 (y2 : Int × Int) => br (decide (y2.2 < (↑y0.2.2.2.length : Int)))
 (chk (decide (0 ≤ y2.2) && decide (y2.2 < (↑y0.2.2.2.length : Int))) (bindS (F168 N x2 ((y0.2.2.2.getD y2.2.toNat (0, 0, 0)).1) ((y0.2.2.2.getD y2.2.toNat (0, 0, 0)).2.1)) (fun (y3 : Int) => chk (decide (0 ≤ (y0.2.2.2.getD y2.2.toNat (0, 0, 0)).2.2)) (again1 ((bits BinOp.or u64 y2.1 (u64.wrap (u64.wrap y3 * 2 ^ Min.min (Int.toNat (y0.2.2.2.getD y2.2.toNat (0, 0, 0)).2.2) u64.bits)), i64.wrap (y2.2 + 1)))))))
 (bindS (F127 N y2.1 y0.1) (fun (y4 : Int) => some (i64.wrap y4))))
 ((0, 0))))
theorem e159 : g159' = R159 g127' g168' g187' := by kernel_rfl
def F159 : Nat → Int → Int → Option Int := R159 F127 F168 F187
theorem F159_eq : g159' = F159 := by
  rw [e159, F127_eq, F168_eq, F187_eq, F159]
def g160' (N : Nat) (x1 : Int × P5Sg) : Option (Int × Int) := f160 N (x1)
def R160 (F159 : Nat → Int → Int → Option Int) (F168 : Nat → Int → Int → Int → Option Int) (N : Nat) (x1 : Int × P5Sg) : Option (Int × Int) :=
  bindS (F168 N x1.1 25 20) (fun (y0 : Int) => bindS (F168 N x1.1 31 26) (fun (y1 : Int) => jp (fun (y2 : Bool) => br y2
 (some ((28, i64.wrap y0)))
 (jp (fun (y3 : Bool) => br y3
 (some ((29, i64.wrap y0)))
 (jp (fun (y4 : Bool) => br y4
 (some ((30, i64.wrap y0)))
 (chk (decide (0 ≤ x1.2.2.2.2.1) && decide (x1.2.2.2.2.1 < (↑8 : Int))) (bindS (F159 N 1 x1.1) (fun (y5 : Int) => some (([22, 0, 23, 24, 25, 0, 26, 27].getD x1.2.2.2.2.1.toNat 0, y5))))))
 (fun K6 => br (decide (x1.2.2.2.2.1 = 5))
 (K6 (decide (y1 = 16)))
 (K6 false))))
 (fun K7 => br (decide (x1.2.2.2.2.1 = 5))
 (K7 (decide (y1 = 0)))
 (K7 false))))
 (fun K8 => br (decide (x1.2.2.2.2.1 = 1))
 (K8 (decide (y1 = 0)))
 (K8 false))))
theorem e160 : g160' = R160 g159' g168' := by kernel_rfl
def F160 : Nat → (Int × P5Sg) → Option (Int × Int) := R160 F159 F168
theorem F160_eq : g160' = F160 := by
  rw [e160, F159_eq, F168_eq, F160]
def g161' (N : Nat) (x1 : Int × P5Sg) : Option (Int × Int) := f161 N (x1)
def R161 (F159 : Nat → Int → Int → Option Int) (N : Nat) (x1 : Int × P5Sg) : Option (Int × Int) :=
  br (decide (x1.2.2.2.2.1 = 0))
 (bindS (F159 N 1 x1.1) (fun (y0 : Int) => some ((31, y0))))
 (jp (fun (y1 : Bool) => br y1
 (some ((32, x1.2.2.2.1)))
 (jp (fun (y2 : Bool) => br y2
 (some ((33, x1.2.2.2.1)))
 (jp (fun (y3 : Bool) => br y3
 (some ((34, x1.2.2.2.1)))
 (some ((0, 0))))
 (fun K4 => br (decide (x1.2.2.2.2.1 = 5))
 (K4 (decide (x1.2.2.2.2.2 = 32)))
 (K4 false))))
 (fun K5 => br (decide (x1.2.2.2.2.1 = 5))
 (K5 (decide (x1.2.2.2.2.2 = 0)))
 (K5 false))))
 (fun K6 => br (decide (x1.2.2.2.2.1 = 1))
 (K6 (decide (x1.2.2.2.2.2 = 0)))
 (K6 false)))
theorem e161 : g161' = R161 g159' := by kernel_rfl
def F161 : Nat → (Int × P5Sg) → Option (Int × Int) := R161 F159
theorem F161_eq : g161' = F161 := by
  rw [e161, F159_eq, F161]
def g162' (N : Nat)  : Option (P4Sg) := f162 N ()
def F162 (N : Nat)  : Option (P4Sg) :=
  some (([35, 37, 38, 39, 40, 41, 43, 44], [36, 0, 0, 0, 0, 42, 0, 0]))
theorem F162_eq : g162' = F162 := by kernel_rfl
def g163' (N : Nat) (x1 : Int × P5Sg) (x2 : List Int) (x3 : List Int) : Option Int := f163 N (x1, x2, x3)
def F163 (N : Nat) (x1 : Int × P5Sg) (x2 : List Int) (x3 : List Int) : Option Int :=
  br (decide (x1.2.2.2.2.2 = 0))
 (chk (decide (0 ≤ x1.2.2.2.2.1) && decide (x1.2.2.2.2.1 < (↑8 : Int))) (some (x2.getD x1.2.2.2.2.1.toNat 0)))
 (br (decide (x1.2.2.2.2.2 = 32))
 (chk (decide (0 ≤ x1.2.2.2.2.1) && decide (x1.2.2.2.2.1 < (↑8 : Int))) (some (x3.getD x1.2.2.2.2.1.toNat 0)))
 (some (0)))
theorem F163_eq : g163' = F163 := by kernel_rfl
def g164' (N : Nat)  : Option (P4Sg) := f164 N ()
def F164 (N : Nat)  : Option (P4Sg) :=
  some (([45, 47, 0, 0, 0, 48, 0, 0], [46, 0, 0, 0, 0, 49, 0, 0]))
theorem F164_eq : g164' = F164 := by kernel_rfl
def g165' (N : Nat) (x1 : Int) : Option (P9Sg) := f165 N (x1)
def R165 (F168 : Nat → Int → Int → Int → Option Int) (N : Nat) (x1 : Int) : Option (P9Sg) :=
  bindS (F168 N x1 31 20) (fun (y0 : Int) => br (decide (y0 = 2099))
 (some ((51, (0, (0, (0, (0, (false, (false, (3, 3))))))))))
 (bindS (F168 N x1 27 24) (fun (y1 : Int) => bindS (F168 N x1 23 20) (fun (y2 : Int) => some ((50, (0, (0, (0, (0, (false, (false, (i64.wrap y1, i64.wrap y2)))))))))))))
theorem e165 : g165' = R165 g168' := by kernel_rfl
def F165 : Nat → Int → Option (P9Sg) := R165 F168
theorem F165_eq : g165' = F165 := by
  rw [e165, F168_eq, F165]
def g166' (N : Nat) (x1 : Int × P5Sg) : Option Int := f166 N (x1)
def R166 (F168 : Nat → Int → Int → Int → Option Int) (N : Nat) (x1 : Int × P5Sg) : Option Int :=
  bindS (F168 N x1.1 31 27) (fun (y0 : Int) => jp (fun (y1 : Int) => jp (fun (y2 : Bool) => br y2
 (some y1)
 (br (!decide (x1.2.2.2.2.1 = 3))
 (some (0))
 (br (decide (y1 ≤ 56))
 (some (i64.wrap (y1 + 1)))
 (some (i64.wrap (i64.wrap (y1 + 67) - 58))))))
 (fun K3 => br (decide (y1 = 0))
 (K3 true)
 (K3 (decide (x1.2.2.2.2.1 = 2)))))
 (fun K4 => br (decide (y0 = 2))
 (br (decide (x1.2.2.2.1 = 0))
 (K4 (54))
 (K4 (0)))
 (br (decide (y0 = 3))
 (K4 (56))
 (br (decide (y0 = 1))
 (K4 (58))
 (br (decide (y0 = 0))
 (K4 (59))
 (br (decide (y0 = 4))
 (K4 (60))
 (br (decide (y0 = 12))
 (K4 (61))
 (br (decide (y0 = 8))
 (K4 (62))
 (br (decide (y0 = 16))
 (K4 (63))
 (br (decide (y0 = 20))
 (K4 (64))
 (br (decide (y0 = 24))
 (K4 (65))
 (br (decide (y0 = 28))
 (K4 (66))
 (K4 (0))))))))))))))
theorem e166 : g166' = R166 g168' := by kernel_rfl
def F166 : Nat → (Int × P5Sg) → Option Int := R166 F168
theorem F166_eq : g166' = F166 := by
  rw [e166, F168_eq, F166]
def g104' (N : Nat) (x1 : Int × P5Sg) : Option (P9Sg) := f104 N (x1)
def R104 (F159 : Nat → Int → Int → Option Int) (F160 : Nat → (Int × P5Sg) → Option (Int × Int)) (F161 : Nat → (Int × P5Sg) → Option (Int × Int)) (F162 : Nat → Option (P4Sg)) (F163 : Nat → (Int × P5Sg) → (List Int) → (List Int) → Option Int) (F164 : Nat → Option (P4Sg)) (F165 : Nat → Int → Option (P9Sg)) (F166 : Nat → (Int × P5Sg) → Option Int) (N : Nat) (x1 : Int × P5Sg) : Option (P9Sg) :=
  jp (fun (y0 : P9Sg) => some y0)
 (fun K1 => br (decide (bits BinOp.and u32 x1.1 127 = 55))
 (bindS (F159 N 4 x1.1) (fun (y2 : Int) => K1 ((1, (x1.2.1, (x1.2.2.1, (x1.2.2.2.1, (y2, (false, (false, (0, 0)))))))))))
 (br (decide (bits BinOp.and u32 x1.1 127 = 23))
 (bindS (F159 N 4 x1.1) (fun (y3 : Int) => K1 ((2, (x1.2.1, (x1.2.2.1, (x1.2.2.2.1, (y3, (false, (false, (0, 0)))))))))))
 (br (decide (bits BinOp.and u32 x1.1 127 = 111))
 (bindS (F159 N 5 x1.1) (fun (y4 : Int) => K1 ((3, (x1.2.1, (x1.2.2.1, (x1.2.2.2.1, (y4, (false, (false, (0, 0)))))))))))
 (br (decide (bits BinOp.and u32 x1.1 127 = 103))
 (br (decide (x1.2.2.2.2.1 = 0))
 (bindS (F159 N 1 x1.1) (fun (y5 : Int) => K1 ((4, (x1.2.1, (x1.2.2.1, (x1.2.2.2.1, (y5, (false, (false, (0, 0)))))))))))
 (K1 ((0, (x1.2.1, (x1.2.2.1, (x1.2.2.2.1, (0, (false, (false, (0, 0)))))))))))
 (br (decide (bits BinOp.and u32 x1.1 127 = 99))
 (chk (decide (0 ≤ x1.2.2.2.2.1) && decide (x1.2.2.2.2.1 < (↑8 : Int))) (bindS (F159 N 3 x1.1) (fun (y6 : Int) => K1 (([5, 6, 0, 0, 7, 8, 9, 10].getD x1.2.2.2.2.1.toNat 0, (x1.2.1, (x1.2.2.1, (x1.2.2.2.1, (y6, (false, (false, (0, 0))))))))))))
 (br (decide (bits BinOp.and u32 x1.1 127 = 3))
 (br (decide (x1.2.2.2.2.1 < 7))
 (bindS (F159 N 1 x1.1) (fun (y7 : Int) => K1 ((i64.wrap (11 + i64.wrap x1.2.2.2.2.1), (x1.2.1, (x1.2.2.1, (x1.2.2.2.1, (y7, (false, (false, (0, 0)))))))))))
 (K1 ((0, (x1.2.1, (x1.2.2.1, (x1.2.2.2.1, (0, (false, (false, (0, 0)))))))))))
 (br (decide (bits BinOp.and u32 x1.1 127 = 35))
 (br (decide (x1.2.2.2.2.1 < 4))
 (bindS (F159 N 2 x1.1) (fun (y8 : Int) => K1 ((i64.wrap (18 + i64.wrap x1.2.2.2.2.1), (x1.2.1, (x1.2.2.1, (x1.2.2.2.1, (y8, (false, (false, (0, 0)))))))))))
 (K1 ((0, (x1.2.1, (x1.2.2.1, (x1.2.2.2.1, (0, (false, (false, (0, 0)))))))))))
 (br (decide (bits BinOp.and u32 x1.1 127 = 19))
 (bindS (F160 N x1) (fun (y9 : Int × Int) => K1 ((y9.1, (x1.2.1, (x1.2.2.1, (x1.2.2.2.1, (y9.2, (false, (false, (0, 0)))))))))))
 (br (decide (bits BinOp.and u32 x1.1 127 = 27))
 (bindS (F161 N x1) (fun (y10 : Int × Int) => K1 ((y10.1, (x1.2.1, (x1.2.2.1, (x1.2.2.2.1, (y10.2, (false, (false, (0, 0)))))))))))
 (br (decide (bits BinOp.and u32 x1.1 127 = 51))
 (bindS (F162 N ) (fun (y11 : P4Sg) => bindS (F163 N x1 y11.1 y11.2) (fun (y12 : Int) => K1 ((y12, (x1.2.1, (x1.2.2.1, (x1.2.2.2.1, (0, (false, (false, (0, 0))))))))))))
 (br (decide (bits BinOp.and u32 x1.1 127 = 59))
 (bindS (F164 N ) (fun (y13 : P4Sg) => bindS (F163 N x1 y13.1 y13.2) (fun (y14 : Int) => K1 ((y14, (x1.2.1, (x1.2.2.1, (x1.2.2.2.1, (0, (false, (false, (0, 0))))))))))))
 (br (decide (bits BinOp.and u32 x1.1 127 = 15))
 (br (decide (x1.2.2.2.2.1 = 0))
 (bindS (F165 N x1.1) (fun (y15 : P9Sg) => some y15))
 (K1 ((0, (x1.2.1, (x1.2.2.1, (x1.2.2.2.1, (0, (false, (false, (0, 0)))))))))))
 (br (decide (bits BinOp.and u32 x1.1 127 = 115))
 (jp (fun (y16 : P9Sg) => K1 y16)
 (fun K17 => br (decide (x1.1 = 115))
 (K17 ((52, (x1.2.1, (x1.2.2.1, (x1.2.2.2.1, (0, (false, (false, (0, 0))))))))))
 (br (decide (x1.1 = 1048691))
 (K17 ((53, (x1.2.1, (x1.2.2.1, (x1.2.2.2.1, (0, (false, (false, (0, 0))))))))))
 (K17 ((0, (x1.2.1, (x1.2.2.1, (x1.2.2.2.1, (0, (false, (false, (0, 0)))))))))))))
 (br (decide (bits BinOp.and u32 x1.1 127 = 47))
 (bindS (F166 N x1) (fun (y18 : Int) => K1 ((y18, (x1.2.1, (x1.2.2.1, (x1.2.2.2.1, (0, (decide (bits BinOp.and u32 (x1.1.fdiv (2 ^ Min.min (26) u32.bits)) 1 = 1), (decide (bits BinOp.and u32 (x1.1.fdiv (2 ^ Min.min (25) u32.bits)) 1 = 1), (0, 0)))))))))))
 (K1 ((0, (x1.2.1, (x1.2.2.1, (x1.2.2.2.1, (0, (false, (false, (0, 0))))))))))))))))))))))))
theorem e104 : g104' = R104 g159' g160' g161' g162' g163' g164' g165' g166' := by kernel_rfl
def F104 : Nat → (Int × P5Sg) → Option (P9Sg) := R104 F159 F160 F161 F162 F163 F164 F165 F166
theorem F104_eq : g104' = F104 := by
  rw [e104, F159_eq, F160_eq, F161_eq, F162_eq, F163_eq, F164_eq, F165_eq, F166_eq, F104]
def g72' (N : Nat) (x1 : Int) : Option Int := f72 N (x1)
def F72 (N : Nat) (x1 : Int) : Option Int :=
  jp (fun (y0 : Bool) => br y0
 (some (0))
 (br (decide (x1 ≤ 2))
 (some (1))
 (br (decide (x1 ≤ 4))
 (some (2))
 (br (decide (x1 ≤ 10))
 (some (3))
 (br (decide (x1 ≤ 17))
 (some (4))
 (br (decide (x1 ≤ 21))
 (some (5))
 (br (decide (x1 ≤ 34))
 (some (6))
 (br (decide (x1 ≤ 49))
 (some (7))
 (br (decide (x1 ≤ 51))
 (some (8))
 (br (decide (x1 ≤ 53))
 (some (9))
 (br (decide (x1 ≤ 55))
 (some (10))
 (br (decide (x1 ≤ 57))
 (some (11))
 (some (12))))))))))))))
 (fun K1 => br (decide (x1 < 1))
 (K1 true)
 (K1 (decide (75 < x1))))
theorem F72_eq : g72' = F72 := by kernel_rfl
def g129' (N : Nat) (x1 : Int) : Option Int := f129 N (x1)
def F129 (N : Nat) (x1 : Int) : Option Int :=
  jp (fun (y0 : Bool) => br y0
 (some (0))
 (some x1))
 (fun K1 => br (decide (x1 < 0))
 (K1 true)
 (K1 (decide (31 < x1))))
theorem F129_eq : g129' = F129 := by kernel_rfl
def g76' (N : Nat) (x1 : P9Sg) : Option Int := f76 N (x1)
def R76 (F129 : Nat → Int → Option Int) (F72 : Nat → Int → Option Int) (N : Nat) (x1 : P9Sg) : Option Int :=
  bindS (F72 N x1.1) (fun (y0 : Int) => jp (fun (y1 : Bool) => br y1
 (some (0))
 (bindS (F129 N x1.2.1) (fun (y2 : Int) => some y2)))
 (fun K3 => br (decide (y0 = 0))
 (K3 true)
 (br (decide (y0 = 3))
 (K3 true)
 (br (decide (y0 = 5))
 (K3 true)
 (br (decide (y0 = 8))
 (K3 true)
 (K3 (decide (y0 = 9))))))))
theorem e76 : g76' = R76 g129' g72' := by kernel_rfl
def F76 : Nat → P9Sg → Option Int := R76 F129 F72
theorem F76_eq : g76' = F76 := by
  rw [e76, F129_eq, F72_eq, F76]
def g146' (N : Nat) (x1 : P9Sg) : Option (List Int) := f146 N (x1)
def R146 (F129 : Nat → Int → Option Int) (F72 : Nat → Int → Option Int) (N : Nat) (x1 : P9Sg) : Option (List Int) :=
  bindS (F72 N x1.1) (fun (y0 : Int) => jp (fun (y1 : List Int) => fixN N (fun again2 (y3 : Int × List Int) => br (decide (y3.1 < (↑y1.length : Int)))
 (jp (fun (y4 : List Int) => again2 ((i64.wrap (y3.1 + 1), y4)))
 (fun K5 => chk (decide (0 ≤ y3.1) && decide (y3.1 < (↑y1.length : Int))) (br (!decide (y1.getD y3.1.toNat 0 = 0))
 (chk (decide ((y3.2.length + [y1.getD y3.1.toNat 0].length) * 8 ≤ lim)) (K5 (y3.2 ++ [y1.getD y3.1.toNat 0])))
 (K5 y3.2))))
 (some y3.2))
 ((0, [])))
 (fun K6 => jp (fun (y7 : Bool) => br y7
 (bindS (F129 N x1.2.2.1) (fun (y8 : Int) => bindS (F129 N x1.2.2.2.1) (fun (y9 : Int) => K6 ([y8, y9]))))
 (jp (fun (y10 : Bool) => br y10
 (bindS (F129 N x1.2.2.1) (fun (y11 : Int) => K6 [y11]))
 (br (decide (y0 = 2))
 (br (decide (x1.1 = 4))
 (bindS (F129 N x1.2.2.1) (fun (y12 : Int) => K6 [y12]))
 (K6 []))
 (K6 [])))
 (fun K13 => br (decide (y0 = 4))
 (K13 true)
 (br (decide (y0 = 6))
 (K13 true)
 (K13 (decide (y0 = 10)))))))
 (fun K14 => br (decide (y0 = 3))
 (K14 true)
 (br (decide (y0 = 5))
 (K14 true)
 (br (decide (y0 = 7))
 (K14 true)
 (br (decide (y0 = 11))
 (K14 true)
 (K14 (decide (y0 = 12)))))))))
theorem e146 : g146' = R146 g129' g72' := by kernel_rfl
def F146 : Nat → P9Sg → Option (List Int) := R146 F129 F72
theorem F146_eq : g146' = F146 := by
  rw [e146, F129_eq, F72_eq, F146]
def g92' (N : Nat) (x1 : P9Sg) : Option (P9Sg) := f92 N (x1)
def R92 (F146 : Nat → P9Sg → Option (List Int)) (F76 : Nat → P9Sg → Option Int) (N : Nat) (x1 : P9Sg) : Option (P9Sg) :=
  jp (fun (y0 : P9Sg) => bindS (F146 N ((x1.1, 1, 2, 3, 0, false, false, 0, 0))) (fun (y1 : List Int) => fixN N (fun again2 (y3 : Int × List Bool) => br (decide (y3.1 < (↑y1.length : Int)))
 (chk (decide (0 ≤ y3.1) && decide (y3.1 < (↑y1.length : Int))) (chk (decide (0 ≤ y1.getD y3.1.toNat 0) && decide (y1.getD y3.1.toNat 0 < (↑4 : Int))) (again2 ((i64.wrap (y3.1 + 1), setD false y3.2 (Int.toNat (y1.getD y3.1.toNat 0)) true)))))
 (jp (fun (y4 : P9Sg) => jp (fun (y5 : P9Sg) => some y5)
 (fun K6 => br (!y3.2.getD (3) false)
 (K6 ((y4.1, (y4.2.1, (y4.2.2.1, (0, y4.2.2.2.2))))))
 (K6 y4)))
 (fun K7 => br (!y3.2.getD (2) false)
 (K7 ((y0.1, (y0.2.1, (0, y0.2.2.2)))))
 (K7 y0))))
 ((0, [false, false, false, false]))))
 (fun K8 => bindS (F76 N ((x1.1, 1, 2, 3, 0, false, false, 0, 0))) (fun (y9 : Int) => br (decide (y9 = 0))
 (K8 ((x1.1, (0, x1.2.2))))
 (K8 x1)))
theorem e92 : g92' = R92 g146' g76' := by kernel_rfl
def F92 : Nat → P9Sg → Option (P9Sg) := R92 F146 F76
theorem F92_eq : g92' = F92 := by
  rw [e92, F146_eq, F76_eq, F92]
def g56' (N : Nat) (x1 : Int) : Option (P9Sg × Int) := f56 N (x1)
def R56 (F104 : Nat → (Int × P5Sg) → Option (P9Sg)) (F105 : Nat → Int → Option (Int × P5Sg)) (F92 : Nat → P9Sg → Option (P9Sg)) (N : Nat) (x1 : Int) : Option (P9Sg × Int) :=
  bindS (F105 N x1) (fun (y0 : Int × P5Sg) => bindS (F104 N y0) (fun (y1 : P9Sg) => br (decide (y1.1 = 0))
 (some (((0, (0, (0, (0, (0, (false, (false, (0, 0)))))))), 2)))
 (bindS (F92 N y1) (fun (y2 : P9Sg) => some ((y2, 0))))))
theorem e56 : g56' = R56 g104' g105' g92' := by kernel_rfl
def F56 : Nat → Int → Option (P9Sg × Int) := R56 F104 F105 F92
theorem F56_eq : g56' = F56 := by
  rw [e56, F104_eq, F105_eq, F92_eq, F56]
def g27' (N : Nat) (x1 : Int) (x2 : List Int) : Option (P9Sg × Int) := f27 N (x1, x2)
def R27 (F55 : Nat → (List Int) → Option Int) (F56 : Nat → Int → Option (P9Sg × Int)) (N : Nat) (x1 : Int) (x2 : List Int) : Option (P9Sg × Int) :=
  jp (fun (y0 : Bool) => br y0
 (some (((0, (0, (0, (0, (0, (false, (false, (0, 0)))))))), 4)))
 (chk (decide (0 ≤ x1) && decide (0 ≤ u64.wrap (x1 + 4)) && x1.toNat.ble (u64.wrap (x1 + 4)).toNat && (u64.wrap (x1 + 4)).toNat.ble x2.length) (bindS (F55 N ((List.take ((u64.wrap (x1 + 4)).toNat - x1.toNat) (List.drop (0 + x1.toNat) x2)))) (fun (y1 : Int) => bindS (F56 N ((u32.wrap y1))) (fun (y2 : P9Sg × Int) => br (!decide (y2.2 = 0))
 (some (((0, (0, (0, (0, (0, (false, (false, (0, 0)))))))), 3)))
 (some ((y2.1, 0))))))))
 (fun K3 => br (!decide (x1.tmod 4 = 0))
 (K3 true)
 (br (decide ((↑x2.length : Int) < 4))
 (K3 true)
 (K3 (decide (u64.wrap (i64.wrap ((↑x2.length : Int) - 4)) < x1)))))
theorem e27 : g27' = R27 g55' g56' := by kernel_rfl
def F27 : Nat → Int → (List Int) → Option (P9Sg × Int) := R27 F55 F56
theorem F27_eq : g27' = F27 := by
  rw [e27, F55_eq, F56_eq, F27]
def g71' (N : Nat) (x1 : Int) : Option Int := f71 N (x1)
def R71 (F72 : Nat → Int → Option Int) (N : Nat) (x1 : Int) : Option Int :=
  jp (fun (y0 : Bool) => br y0
 (some (1))
 (jp (fun (y1 : Bool) => br y1
 (some (2))
 (jp (fun (y2 : Bool) => br y2
 (some (4))
 (jp (fun (y3 : Bool) => br y3
 (some (8))
 (bindS (F72 N x1) (fun (y4 : Int) => br (!decide (y4 = 12))
 (some (0))
 (br (decide (x1 ≤ 66))
 (some (4))
 (some (8))))))
 (fun K5 => br (decide (x1 = 14))
 (K5 true)
 (br (decide (x1 = 21))
 (K5 true)
 (br (decide (x1 = 55))
 (K5 true)
 (K5 (decide (x1 = 57))))))))
 (fun K6 => br (decide (x1 = 13))
 (K6 true)
 (br (decide (x1 = 17))
 (K6 true)
 (br (decide (x1 = 20))
 (K6 true)
 (br (decide (x1 = 54))
 (K6 true)
 (K6 (decide (x1 = 56)))))))))
 (fun K7 => br (decide (x1 = 12))
 (K7 true)
 (br (decide (x1 = 16))
 (K7 true)
 (K7 (decide (x1 = 19)))))))
 (fun K8 => br (decide (x1 = 11))
 (K8 true)
 (br (decide (x1 = 15))
 (K8 true)
 (K8 (decide (x1 = 18)))))
theorem e71 : g71' = R71 g72' := by kernel_rfl
def F71 : Nat → Int → Option Int := R71 F72
theorem F71_eq : g71' = F71 := by
  rw [e71, F72_eq, F71]
def g124' (N : Nat) (x1 : P9Sg) (x2 : Int) : Option Int := f124 N (x1, x2)
def R124 (F72 : Nat → Int → Option Int) (N : Nat) (x1 : P9Sg) (x2 : Int) : Option Int :=
  bindS (F72 N x1.1) (fun (y0 : Int) => jp (fun (y1 : Bool) => br y1
 (some (u64.wrap (x2 + u64.wrap x1.2.2.2.2.1)))
 (jp (fun (y2 : Bool) => br y2
 (some x2)
 (some (0)))
 (fun K3 => br (decide (y0 = 10))
 (K3 true)
 (br (decide (y0 = 11))
 (K3 true)
 (K3 (decide (y0 = 12)))))))
 (fun K4 => br (decide (y0 = 4))
 (K4 true)
 (K4 (decide (y0 = 5)))))
theorem e124 : g124' = R124 g72' := by kernel_rfl
def F124 : Nat → P9Sg → Int → Option Int := R124 F72
theorem F124_eq : g124' = F124 := by
  rw [e124, F72_eq, F124]
def g125' (N : Nat) (x1 : Int) (x2 : Int) (x3 : Int) : Option Int := f125 N (x1, x2, x3)
def R125 (F71 : Nat → Int → Option Int) (N : Nat) (x1 : Int) (x2 : Int) (x3 : Int) : Option Int :=
  bindS (F71 N x1) (fun (y0 : Int) => br (decide (u64.wrap y0 = 0))
 (some (0))
 (chk (!decide (u64.wrap y0 = 0)) (br (!decide (x2.tmod (u64.wrap y0) = 0))
 (some (4))
 (jp (fun (y1 : Bool) => br y1
 (some (3))
 (some (0)))
 (fun K2 => br (decide (x3 < i64.wrap (u64.wrap y0)))
 (K2 true)
 (K2 (decide (u64.wrap (u64.wrap x3 - u64.wrap y0) < x2))))))))
theorem e125 : g125' = R125 g71' := by kernel_rfl
def F125 : Nat → Int → Int → Int → Option Int := R125 F71
theorem F125_eq : g125' = F125 := by
  rw [e125, F71_eq, F125]
def g86' (N : Nat) (x1 : Int × P2Sg) (x2 : Int) (x3 : Int) (x4 : Bool) (x5 : List Int) (x6 : List Int) : Option (Int × Bool) := f86 N (x1, x2, x3, x4, x5, x6)
def R86 (F124 : Nat → P9Sg → Int → Option Int) (F125 : Nat → Int → Int → Int → Option Int) (F27 : Nat → Int → (List Int) → Option (P9Sg × Int)) (F55 : Nat → (List Int) → Option Int) (F71 : Nat → Int → Option Int) (N : Nat) (x1 : Int × P2Sg) (x2 : Int) (x3 : Int) (x4 : Bool) (x5 : List Int) (x6 : List Int) : Option (Int × Bool) :=
  bindS (F27 N x1.1 x6) (fun (y0 : P9Sg × Int) => bindS (F71 N y0.1.1) (fun (y1 : Int) => chk (decide (0 ≤ y0.1.2.2.1) && decide (y0.1.2.2.1 < (↑32 : Int))) (bindS (F124 N y0.1 (x1.2.1.getD y0.1.2.2.1.toNat 0)) (fun (y2 : Int) => jp (fun (y3 : Bool) => br y3
 (some ((0, false)))
 (jp (fun (y4 : Int × Bool) => some ((y4.1, y4.2)))
 (fun K5 => chk (decide (0 ≤ i64.wrap y2) && decide (0 ≤ i64.wrap (i64.wrap y2 + y1)) && (i64.wrap y2).toNat.ble (i64.wrap (i64.wrap y2 + y1)).toNat && (i64.wrap (i64.wrap y2 + y1)).toNat.ble x5.length) (bindS (F55 N ((List.take ((i64.wrap (i64.wrap y2 + y1)).toNat - (i64.wrap y2).toNat) (List.drop (0 + (i64.wrap y2).toNat) x5)))) (fun (y6 : Int) => br (!x4)
 (K5 ((y6, true)))
 (br (!decide (x2 = i64.wrap y2))
 (K5 ((y6, true)))
 (K5 ((y6, !decide (x3 = y1))))))))))
 (fun K7 => br (!decide (y0.2 = 0))
 (K7 true)
 (br (decide (y1 = 0))
 (K7 true)
 (bindS (F125 N y0.1.1 y2 ((↑x5.length : Int))) (fun (y8 : Int) => K7 (!decide (y8 = 0))))))))))
theorem e86 : g86' = R86 g124' g125' g27' g55' g71' := by kernel_rfl
def F86 : Nat → (Int × P2Sg) → Int → Int → Bool → (List Int) → (List Int) → Option (Int × Bool) := R86 F124 F125 F27 F55 F71
theorem F86_eq : g86' = F86 := by
  rw [e86, F124_eq, F125_eq, F27_eq, F55_eq, F71_eq, F86]
def g123' (N : Nat) (x1 : Int) : Option Bool := f123 N (x1)
def R123 (F71 : Nat → Int → Option Int) (N : Nat) (x1 : Int) : Option Bool :=
  bindS (F71 N x1) (fun (y0 : Int) => some (decide (0 < y0)))
theorem e123 : g123' = R123 g71' := by kernel_rfl
def F123 : Nat → Int → Option Bool := R123 F71
theorem F123_eq : g123' = F123 := by
  rw [e123, F71_eq, F123]
def g68' (N : Nat) (x1 : Int × P2Sg) (x2 : P9Sg) (x3 : Int) : Option (Int × Int) := f68 N (x1, x2, x3)
def R68 (F123 : Nat → Int → Option Bool) (F124 : Nat → P9Sg → Int → Option Int) (F125 : Nat → Int → Int → Int → Option Int) (N : Nat) (x1 : Int × P2Sg) (x2 : P9Sg) (x3 : Int) : Option (Int × Int) :=
  br (decide (x2.1 = 52))
 (some ((1, 0)))
 (br (decide (x2.1 = 53))
 (some ((2, 0)))
 (bindS (F123 N x2.1) (fun (y0 : Bool) => br (!y0)
 (some ((0, 0)))
 (chk (decide (0 ≤ x2.2.2.1) && decide (x2.2.2.1 < (↑32 : Int))) (bindS (F124 N x2 (x1.2.1.getD x2.2.2.1.toNat 0)) (fun (y1 : Int) => bindS (F125 N x2.1 y1 x3) (fun (y2 : Int) => br (decide (y2 = 4))
 (some ((5, y1)))
 (br (decide (y2 = 3))
 (some ((6, y1)))
 (some ((0, y1)))))))))))
theorem e68 : g68' = R68 g123' g124' g125' := by kernel_rfl
def F68 : Nat → (Int × P2Sg) → P9Sg → Int → Option (Int × Int) := R68 F123 F124 F125
theorem F68_eq : g68' = F68 := by
  rw [e68, F123_eq, F124_eq, F125_eq, F68]
def g69' (N : Nat) (x1 : Int) : Option Bool := f69 N (x1)
def R69 (F72 : Nat → Int → Option Int) (N : Nat) (x1 : Int) : Option Bool :=
  bindS (F72 N x1) (fun (y0 : Int) => jp (fun (y1 : Bool) => br y1
 (some true)
 (some false))
 (fun K2 => br (decide (y0 = 4))
 (K2 true)
 (br (decide (y0 = 10))
 (K2 true)
 (K2 (decide (y0 = 12))))))
theorem e69 : g69' = R69 g72' := by kernel_rfl
def F69 : Nat → Int → Option Bool := R69 F72
theorem F69_eq : g69' = F69 := by
  rw [e69, F72_eq, F69]
def g73' (N : Nat) (x1 : Int) : Option Bool := f73 N (x1)
def R73 (F72 : Nat → Int → Option Int) (N : Nat) (x1 : Int) : Option Bool :=
  bindS (F72 N x1) (fun (y0 : Int) => jp (fun (y1 : Bool) => br y1
 (some true)
 (some false))
 (fun K2 => br (decide (y0 = 5))
 (K2 true)
 (br (decide (y0 = 11))
 (K2 true)
 (K2 (decide (y0 = 12))))))
theorem e73 : g73' = R73 g72' := by kernel_rfl
def F73 : Nat → Int → Option Bool := R73 F72
theorem F73_eq : g73' = F73 := by
  rw [e73, F72_eq, F73]
def g126' (N : Nat) (x1 : Int) (x2 : Int) (x3 : Int) (x4 : Int) : Option Int := f126 N (x1, x2, x3, x4)
def R126 (F70 : Nat → Int → Int → Option Int) (N : Nat) (x1 : Int) (x2 : Int) (x3 : Int) (x4 : Int) : Option Int :=
  bindS (F70 N x2 x4) (fun (y0 : Int) => bindS (F70 N x3 x4) (fun (y1 : Int) => br (decide ((i64.wrap (x1 - 58)).tmod 9 = 0))
 (some x3)
 (br (decide ((i64.wrap (x1 - 58)).tmod 9 = 1))
 (some (u64.wrap (x2 + x3)))
 (br (decide ((i64.wrap (x1 - 58)).tmod 9 = 2))
 (some (bits BinOp.xor u64 x2 x3))
 (br (decide ((i64.wrap (x1 - 58)).tmod 9 = 3))
 (some (bits BinOp.and u64 x2 x3))
 (br (decide ((i64.wrap (x1 - 58)).tmod 9 = 4))
 (some (bits BinOp.or u64 x2 x3))
 (br (decide ((i64.wrap (x1 - 58)).tmod 9 = 5))
 (some (u64.wrap (if i64.wrap x3 < i64.wrap x2 then i64.wrap x3 else i64.wrap x2)))
 (br (decide ((i64.wrap (x1 - 58)).tmod 9 = 6))
 (some (u64.wrap (if i64.wrap x3 > i64.wrap x2 then i64.wrap x3 else i64.wrap x2)))
 (br (decide ((i64.wrap (x1 - 58)).tmod 9 = 7))
 (some (if y1 < y0 then y1 else y0))
 (some (if y1 > y0 then y1 else y0)))))))))))
theorem e126 : g126' = R126 g70' := by kernel_rfl
def F126 : Nat → Int → Int → Int → Int → Option Int := R126 F70
theorem F126_eq : g126' = F126 := by
  rw [e126, F70_eq, F126]
def g74' (N : Nat) (x1 : Int) (x2 : Int) (x3 : Int) : Option Int := f74 N (x1, x2, x3)
def R74 (F126 : Nat → Int → Int → Int → Int → Option Int) (F127 : Nat → Int → Int → Option Int) (F70 : Nat → Int → Int → Option Int) (F71 : Nat → Int → Option Int) (F72 : Nat → Int → Option Int) (N : Nat) (x1 : Int) (x2 : Int) (x3 : Int) : Option Int :=
  bindS (F71 N x1) (fun (y0 : Int) => bindS (F72 N x1) (fun (y1 : Int) => jp (fun (y2 : Bool) => br y2
 (bindS (F70 N x3 (i64.wrap (8 * y0))) (fun (y3 : Int) => some y3))
 (br (decide (y1 = 12))
 (bindS (F127 N x2 (i64.wrap (8 * y0))) (fun (y4 : Int) => bindS (F127 N x3 (i64.wrap (8 * y0))) (fun (y5 : Int) => bindS (F126 N x1 y4 y5 (i64.wrap (8 * y0))) (fun (y6 : Int) => bindS (F70 N y6 (i64.wrap (8 * y0))) (fun (y7 : Int) => some y7)))))
 (some (0))))
 (fun K8 => br (decide (y1 = 5))
 (K8 true)
 (K8 (decide (y1 = 11))))))
theorem e74 : g74' = R74 g126' g127' g70' g71' g72' := by kernel_rfl
def F74 : Nat → Int → Int → Int → Option Int := R74 F126 F127 F70 F71 F72
theorem F74_eq : g74' = F74 := by
  rw [e74, F126_eq, F127_eq, F70_eq, F71_eq, F72_eq, F74]
def g128' (N : Nat) (x1 : P9Sg) (x2 : Int) (x3 : Int) : Option Bool := f128 N (x1, x2, x3)
def F128 (N : Nat) (x1 : P9Sg) (x2 : Int) (x3 : Int) : Option Bool :=
  br (decide (x1.1 = 5))
 (some (decide (x2 = x3)))
 (br (decide (x1.1 = 6))
 (some (!decide (x2 = x3)))
 (br (decide (x1.1 = 7))
 (some (decide (i64.wrap x2 < i64.wrap x3)))
 (br (decide (x1.1 = 8))
 (some (decide (i64.wrap x3 ≤ i64.wrap x2)))
 (br (decide (x1.1 = 9))
 (some (decide (x2 < x3)))
 (br (decide (x1.1 = 10))
 (some (decide (x3 ≤ x2)))
 (some false))))))
theorem F128_eq : g128' = F128 := by kernel_rfl
def g75' (N : Nat) (x1 : P9Sg) (x2 : Int) (x3 : Int) (x4 : Int) : Option Int := f75 N (x1, x2, x3, x4)
def R75 (F128 : Nat → P9Sg → Int → Int → Option Bool) (N : Nat) (x1 : P9Sg) (x2 : Int) (x3 : Int) (x4 : Int) : Option Int :=
  jp (fun (y0 : Bool) => br y0
 (some (u64.wrap (x2 + u64.wrap x1.2.2.2.2.1)))
 (br (decide (x1.1 = 4))
 (some (bits BinOp.andNot u64 (u64.wrap (x3 + u64.wrap x1.2.2.2.2.1)) 1))
 (some (u64.wrap (x2 + 4)))))
 (fun K1 => br (decide (x1.1 = 3))
 (K1 true)
 (bindS (F128 N x1 x3 x4) (fun (y2 : Bool) => K1 y2)))
theorem e75 : g75' = R75 g128' := by kernel_rfl
def F75 : Nat → P9Sg → Int → Int → Int → Option Int := R75 F128
theorem F75_eq : g75' = F75 := by
  rw [e75, F128_eq, F75]
def g130' (N : Nat) (x1 : Int) (x2 : Int) : Option Int := f130 N (x1, x2)
def R130 (F127 : Nat → Int → Int → Option Int) (F70 : Nat → Int → Int → Option Int) (F71 : Nat → Int → Option Int) (F72 : Nat → Int → Option Int) (N : Nat) (x1 : Int) (x2 : Int) : Option Int :=
  bindS (F71 N x1) (fun (y0 : Int) => bindS (F72 N x1) (fun (y1 : Int) => jp (fun (y2 : PUnit) => bindS (F127 N x2 (i64.wrap (8 * y0))) (fun (y3 : Int) => some y3))
 (fun K4 => br (decide (y1 = 4))
 (br (decide (15 ≤ x1))
 (bindS (F70 N x2 (i64.wrap (8 * y0))) (fun (y5 : Int) => some y5))
 (K4 ()))
 (jp (fun (y6 : Bool) => br y6
 (K4 ())
 (some (0)))
 (fun K7 => br (decide (y1 = 10))
 (K7 true)
 (K7 (decide (y1 = 12))))))))
theorem e130 : g130' = R130 g127' g70' g71' g72' := by kernel_rfl
def F130 : Nat → Int → Int → Option Int := R130 F127 F70 F71 F72
theorem F130_eq : g130' = F130 := by
  rw [e130, F127_eq, F70_eq, F71_eq, F72_eq, F130]
def g180' (N : Nat)  : Option (List Int) := f180 N ()
def F180 (N : Nat)  : Option (List Int) :=
  some ([35, 38, 39, 40, 43, 44, 37, 41, 42, 45, 47, 48, 49])
theorem F180_eq : g180' = F180 := by kernel_rfl
def g210' (N : Nat) (x1 : Bool) : Option Int := f210 N (x1)
def F210 (N : Nat) (x1 : Bool) : Option Int :=
  br x1
 (some (1))
 (some (0))
theorem F210_eq : g210' = F210 := by kernel_rfl
def g211' (N : Nat) (x1 : Int) : Option Int := f211 N (x1)
def R211 (F127 : Nat → Int → Int → Option Int) (N : Nat) (x1 : Int) : Option Int :=
  bindS (F127 N x1 32) (fun (y0 : Int) => some y0)
theorem e211 : g211' = R211 g127' := by kernel_rfl
def F211 : Nat → Int → Option Int := R211 F127
theorem F211_eq : g211' = F211 := by
  rw [e211, F127_eq, F211]
def g179' (N : Nat) (x1 : Int) (x2 : Int) (x3 : Int) : Option Int := f179 N (x1, x2, x3)
def R179 (F210 : Nat → Bool → Option Int) (F211 : Nat → Int → Option Int) (F70 : Nat → Int → Int → Option Int) (N : Nat) (x1 : Int) (x2 : Int) (x3 : Int) : Option Int :=
  br (decide (x1 = 35))
 (some (u64.wrap (x2 + x3)))
 (br (decide (x1 = 36))
 (some (u64.wrap (x2 - x3)))
 (br (decide (x1 = 37))
 (some (u64.wrap (x2 * 2 ^ Min.min (bits BinOp.and u64 x3 63).toNat u64.bits)))
 (br (decide (x1 = 38))
 (bindS (F210 N ((decide (i64.wrap x2 < i64.wrap x3)))) (fun (y0 : Int) => some y0))
 (br (decide (x1 = 39))
 (bindS (F210 N ((decide (x2 < x3)))) (fun (y1 : Int) => some y1))
 (br (decide (x1 = 40))
 (some (bits BinOp.xor u64 x2 x3))
 (br (decide (x1 = 41))
 (some (x2.fdiv (2 ^ Min.min (bits BinOp.and u64 x3 63).toNat u64.bits)))
 (br (decide (x1 = 42))
 (some (u64.wrap ((i64.wrap x2).fdiv (2 ^ Min.min (bits BinOp.and u64 x3 63).toNat i64.bits))))
 (br (decide (x1 = 43))
 (some (bits BinOp.or u64 x2 x3))
 (br (decide (x1 = 44))
 (some (bits BinOp.and u64 x2 x3))
 (br (decide (x1 = 45))
 (bindS (F211 N ((u64.wrap (x2 + x3)))) (fun (y2 : Int) => some y2))
 (br (decide (x1 = 46))
 (bindS (F211 N ((u64.wrap (x2 - x3)))) (fun (y3 : Int) => some y3))
 (br (decide (x1 = 47))
 (bindS (F211 N ((u64.wrap (x2 * 2 ^ Min.min (bits BinOp.and u64 x3 31).toNat u64.bits)))) (fun (y4 : Int) => some y4))
 (br (decide (x1 = 48))
 (bindS (F70 N x2 32) (fun (y5 : Int) => bindS (F211 N ((y5.fdiv (2 ^ Min.min (bits BinOp.and u64 x3 31).toNat u64.bits)))) (fun (y6 : Int) => some y6)))
 (br (decide (x1 = 49))
 (bindS (F211 N x2) (fun (y7 : Int) => some (u64.wrap ((i64.wrap y7).fdiv (2 ^ Min.min (bits BinOp.and u64 x3 31).toNat i64.bits)))))
 (some (0))))))))))))))))
theorem e179 : g179' = R179 g210' g211' g70' := by kernel_rfl
def F179 : Nat → Int → Int → Int → Option Int := R179 F210 F211 F70
theorem F179_eq : g179' = F179 := by
  rw [e179, F210_eq, F211_eq, F70_eq, F179]
def g131' (N : Nat) (x1 : P9Sg) (x2 : Int) (x3 : Int) (x4 : Int) : Option Int := f131 N (x1, x2, x3, x4)
def R131 (F179 : Nat → Int → Int → Int → Option Int) (F180 : Nat → Option (List Int)) (F72 : Nat → Int → Option Int) (N : Nat) (x1 : P9Sg) (x2 : Int) (x3 : Int) (x4 : Int) : Option Int :=
  bindS (F72 N x1.1) (fun (y0 : Int) => br (decide (y0 = 1))
 (br (decide (x1.1 = 1))
 (some (u64.wrap x1.2.2.2.2.1))
 (some (u64.wrap (x2 + u64.wrap x1.2.2.2.2.1))))
 (br (decide (y0 = 2))
 (some (u64.wrap (x2 + 4)))
 (br (decide (y0 = 6))
 (bindS (F180 N ) (fun (y1 : List Int) => chk (decide (0 ≤ i64.wrap (x1.1 - 22)) && decide (i64.wrap (x1.1 - 22) < (↑13 : Int))) (bindS (F179 N (y1.getD (i64.wrap (x1.1 - 22)).toNat 0) x3 (u64.wrap x1.2.2.2.2.1)) (fun (y2 : Int) => some y2))))
 (br (decide (y0 = 7))
 (bindS (F179 N x1.1 x3 x4) (fun (y3 : Int) => some y3))
 (some (0))))))
theorem e131 : g131' = R131 g179' g180' g72' := by kernel_rfl
def F131 : Nat → P9Sg → Int → Int → Int → Option Int := R131 F179 F180 F72
theorem F131_eq : g131' = F131 := by
  rw [e131, F179_eq, F180_eq, F72_eq, F131]
def g77' (N : Nat) (x1 : Int × P2Sg) (x2 : P9Sg) (x3 : Int) (x4 : Bool) : Option Int := f77 N (x1, x2, x3, x4)
def R77 (F130 : Nat → Int → Int → Option Int) (F131 : Nat → P9Sg → Int → Int → Int → Option Int) (F69 : Nat → Int → Option Bool) (F72 : Nat → Int → Option Int) (N : Nat) (x1 : Int × P2Sg) (x2 : P9Sg) (x3 : Int) (x4 : Bool) : Option Int :=
  bindS (F69 N x2.1) (fun (y0 : Bool) => br y0
 (bindS (F130 N x2.1 x3) (fun (y1 : Int) => some y1))
 (bindS (F72 N x2.1) (fun (y2 : Int) => br (!decide (y2 = 11))
 (chk (decide (0 ≤ x2.2.2.1) && decide (x2.2.2.1 < (↑32 : Int))) (chk (decide (0 ≤ x2.2.2.2.1) && decide (x2.2.2.2.1 < (↑32 : Int))) (bindS (F131 N x2 x1.1 (x1.2.1.getD x2.2.2.1.toNat 0) (x1.2.1.getD x2.2.2.2.1.toNat 0)) (fun (y3 : Int) => some y3))))
 (br x4
 (some (1))
 (some (0))))))
theorem e77 : g77' = R77 g130' g131' g69' g72' := by kernel_rfl
def F77 : Nat → (Int × P2Sg) → P9Sg → Int → Bool → Option Int := R77 F130 F131 F69 F72
theorem F77_eq : g77' = F77 := by
  rw [e77, F130_eq, F131_eq, F69_eq, F72_eq, F77]
def g29' (N : Nat) (x1 : Int × P2Sg) (x2 : Int) (x3 : Bool) (x4 : List Int) : Option (P13Sg) := f29 N (x1, x2, x3, x4)
def R29 (F27 : Nat → Int → (List Int) → Option (P9Sg × Int)) (F68 : Nat → (Int × P2Sg) → P9Sg → Int → Option (Int × Int)) (F69 : Nat → Int → Option Bool) (F70 : Nat → Int → Int → Option Int) (F71 : Nat → Int → Option Int) (F72 : Nat → Int → Option Int) (F73 : Nat → Int → Option Bool) (F74 : Nat → Int → Int → Int → Option Int) (F75 : Nat → P9Sg → Int → Int → Int → Option Int) (F76 : Nat → P9Sg → Option Int) (F77 : Nat → (Int × P2Sg) → P9Sg → Int → Bool → Option Int) (N : Nat) (x1 : Int × P2Sg) (x2 : Int) (x3 : Bool) (x4 : List Int) : Option (P13Sg) :=
  br (!decide (x1.2.2 = 0))
 (some (((x1.1, (setD 0 x1.2.1 (0) 0, x1.2.2)), (0, ((0, (0, (0, (0, (0, (false, (false, (0, 0)))))))), (0, (0, (0, (0, (0, false))))))))))
 (bindS (F27 N x1.1 x4) (fun (y0 : P9Sg × Int) => jp (fun (y1 : Int × P10Sg) => br (!decide (y1.2.2.1 = 0))
 (some (((x1.1, (setD 0 x1.2.1 (0) 0, y1.2.2.1)), y1)))
 (jp (fun (y2 : Int × P10Sg) => jp (fun (y3 : Int × P10Sg) => jp (fun (y4 : Int × P10Sg) => chk (decide (0 ≤ y0.1.2.2.1) && decide (y0.1.2.2.1 < (↑32 : Int))) (chk (decide (0 ≤ y0.1.2.2.2.1) && decide (y0.1.2.2.2.1 < (↑32 : Int))) (bindS (F75 N y0.1 x1.1 ((setD 0 x1.2.1 (0) 0).getD y0.1.2.2.1.toNat 0) ((setD 0 x1.2.1 (0) 0).getD y0.1.2.2.2.1.toNat 0)) (fun (y5 : Int) => jp (fun (y6 : P13Sg) => some (((y5, y6.1.2), y6.2)))
 (fun K7 => bindS (F76 N y0.1) (fun (y8 : Int) => br (decide (0 < y8))
 (bindS (F77 N ((x1.1, setD 0 x1.2.1 (0) 0, x1.2.2)) y0.1 x2 x3) (fun (y9 : Int) => chk (decide (0 ≤ y8) && decide (y8 < (↑32 : Int))) (K7 (((x1.1, (setD 0 (setD 0 x1.2.1 (0) 0) y8.toNat y9, x1.2.2)), (y4.1, (y4.2.1, (y4.2.2.1, (y9, y4.2.2.2.2)))))))))
 (K7 (((x1.1, (setD 0 x1.2.1 (0) 0, x1.2.2)), y4)))))))))
 (fun K10 => jp (fun (y11 : Bool) => br y11
 (chk (decide (0 ≤ y0.1.2.2.2.1) && decide (y0.1.2.2.2.1 < (↑32 : Int))) (bindS (F74 N y0.1.1 x2 ((setD 0 x1.2.1 (0) 0).getD y0.1.2.2.2.1.toNat 0)) (fun (y12 : Int) => K10 ((y3.1, (y3.2.1, (y3.2.2.1, (y3.2.2.2.1, (y3.2.2.2.2.1, (y3.2.2.2.2.2.1, (y12, y3.2.2.2.2.2.2.2)))))))))))
 (K10 y3))
 (fun K13 => bindS (F73 N y0.1.1) (fun (y14 : Bool) => br y14
 (K13 (!y3.2.2.2.2.2.2.2))
 (K13 false)))))
 (fun K15 => br x3
 (bindS (F72 N y0.1.1) (fun (y16 : Int) => K15 ((y2.1, (y2.2.1, (y2.2.2.1, (y2.2.2.2.1, (y2.2.2.2.2.1, (y2.2.2.2.2.2.1, (y2.2.2.2.2.2.2.1, decide (y16 = 11)))))))))))
 (K15 ((y2.1, (y2.2.1, (y2.2.2.1, (y2.2.2.2.1, (y2.2.2.2.2.1, (y2.2.2.2.2.2.1, (y2.2.2.2.2.2.2.1, false)))))))))))
 (fun K17 => bindS (F69 N y0.1.1) (fun (y18 : Bool) => br y18
 (bindS (F71 N y0.1.1) (fun (y19 : Int) => bindS (F70 N x2 (i64.wrap (8 * y19))) (fun (y20 : Int) => K17 ((y1.1, (y1.2.1, (y1.2.2.1, (y1.2.2.2.1, (y1.2.2.2.2.1, (y20, y1.2.2.2.2.2.2))))))))))
 (K17 y1)))))
 (fun K21 => br (decide (y0.2 = 0))
 (bindS (F68 N ((x1.1, setD 0 x1.2.1 (0) 0, x1.2.2)) y0.1 ((↑x4.length : Int))) (fun (y22 : Int × Int) => K21 ((x1.1, (y0.1, (y22.1, (0, (y22.2, (0, (0, false))))))))))
 (K21 ((x1.1, (y0.1, (y0.2, (0, (0, (0, (0, false))))))))))))
theorem e29 : g29' = R29 g27' g68' g69' g70' g71' g72' g73' g74' g75' g76' g77' := by kernel_rfl
def F29 : Nat → (Int × P2Sg) → Int → Bool → (List Int) → Option (P13Sg) := R29 F27 F68 F69 F70 F71 F72 F73 F74 F75 F76 F77
theorem F29_eq : g29' = F29 := by
  rw [e29, F27_eq, F68_eq, F69_eq, F70_eq, F71_eq, F72_eq, F73_eq, F74_eq, F75_eq, F76_eq, F77_eq, F29]
def g67' (N : Nat) (x1 : Int) (x2 : Int) : Option (List Int) := f67 N (x1, x2)
def F67 (N : Nat) (x1 : Int) (x2 : Int) : Option (List Int) :=
  fixN N (fun again0 (y1 : Int × Int × List Int) => br (decide (y1.2.1 < if 8 < x2 then 8 else x2))
 (chk (decide ((y1.2.2.length + [u8.wrap y1.1].length) * 1 ≤ lim)) (again0 ((y1.1.fdiv (2 ^ Min.min (8) u64.bits), (i64.wrap (y1.2.1 + 1), y1.2.2 ++ [u8.wrap y1.1])))))
 (some y1.2.2))
 ((x1, (0, [])))
theorem F67_eq : g67' = F67 := by kernel_rfl
def g87' (N : Nat) (x1 : Int × P10Sg) (x2 : Int) (x3 : Int) (x4 : Bool) (x5 : List Int) : Option (Int × Int × Bool × List Int) := f87 N (x1, x2, x3, x4, x5)
def R87 (F67 : Nat → Int → Int → Option (List Int)) (F71 : Nat → Int → Option Int) (F72 : Nat → Int → Option Int) (F73 : Nat → Int → Option Bool) (N : Nat) (x1 : Int × P10Sg) (x2 : Int) (x3 : Int) (x4 : Bool) (x5 : List Int) : Option (Int × Int × Bool × List Int) :=
  br (!decide (x1.2.2.1 = 0))
 (some ((x2, (x3, (x4, x5)))))
 (bindS (F71 N x1.2.1.1) (fun (y0 : Int) => bindS (F72 N x1.2.1.1) (fun (y1 : Int) => jp (fun (y2 : P3Sg) => jp (fun (y3 : Bool) => br y3
 (chk (decide (0 ≤ x1.2.2.2.2.1) && true && x1.2.2.2.2.1.toNat.ble x5.length && x5.length.ble x5.length) (bindS (F67 N x1.2.2.2.2.2.2.1 y0) (fun (y4 : List Int) => some ((y2.1, (y2.2.1, (y2.2.2, List.take (0 + x1.2.2.2.2.1.toNat) x5 ++ (List.take (Min.min y4.length (x5.length - x1.2.2.2.2.1.toNat)) y4 ++ List.drop (0 + x1.2.2.2.2.1.toNat + Min.min y4.length (x5.length - x1.2.2.2.2.1.toNat)) x5))))))))
 (some ((y2.1, (y2.2.1, (y2.2.2, x5))))))
 (fun K5 => bindS (F73 N x1.2.1.1) (fun (y6 : Bool) => br y6
 (K5 (!x1.2.2.2.2.2.2.2))
 (K5 false))))
 (fun K7 => br (decide (y1 = 10))
 (K7 ((i64.wrap x1.2.2.2.2.1, (y0, true))))
 (br (decide (y1 = 11))
 (K7 ((x2, (x3, false))))
 (K7 ((x2, (x3, x4)))))))))
theorem e87 : g87' = R87 g67' g71' g72' g73' := by kernel_rfl
def F87 : Nat → (Int × P10Sg) → Int → Int → Bool → (List Int) → Option (Int × Int × Bool × List Int) := R87 F67 F71 F72 F73
theorem F87_eq : g87' = F87 := by
  rw [e87, F67_eq, F71_eq, F72_eq, F73_eq, F87]
def g31' (N : Nat) (x1 : Int × P2Sg) (x2 : Int) (x3 : List Int) : Option (P14Sg) := f31 N (x1, x2, x3)
def R31 (F29 : Nat → (Int × P2Sg) → Int → Bool → (List Int) → Option (P13Sg)) (F85 : Nat → (List Int) → Option (List Int)) (F86 : Nat → (Int × P2Sg) → Int → Int → Bool → (List Int) → (List Int) → Option (Int × Bool)) (F87 : Nat → (Int × P10Sg) → Int → Int → Bool → (List Int) → Option (Int × Int × Bool × List Int)) (N : Nat) (x1 : Int × P2Sg) (x2 : Int) (x3 : List Int) : Option (P14Sg) :=
  bindS (F85 N x3) (fun (y0 : List Int) => jp (fun (y1 : (Int × P2Sg) × Int × Int × Bool × P11Sg × List Int) => some ((y1.1, (y1.2.2.2.2.2, y1.2.2.2.2.1))))
 (fun K2 => fixN N (fun again3 (y4 : Int × (Int × P2Sg) × Int × Int × Bool × P11Sg × List Int) => br (decide (y4.1 < if (if 100000 < x2 then 100000 else x2) > 0 then if 100000 < x2 then 100000 else x2 else 0))
 (br (!decide (y4.2.1.2.2 = 0))
 (K2 ((y4.2.1, (y4.2.2.1, (y4.2.2.2.1, (y4.2.2.2.2.1, (y4.2.2.2.2.2.1, y4.2.2.2.2.2.2)))))))
 (bindS (F86 N y4.2.1 y4.2.2.1 y4.2.2.2.1 y4.2.2.2.2.1 y4.2.2.2.2.2.2 x3) (fun (y5 : Int × Bool) => bindS (F29 N y4.2.1 y5.1 y5.2 x3) (fun (y6 : P13Sg) => bindS (F87 N y6.2 y4.2.2.1 y4.2.2.2.1 y4.2.2.2.2.1 y4.2.2.2.2.2.2) (fun (y7 : Int × Int × Bool × List Int) => chk (decide ((y4.2.2.2.2.2.1.length + [y6.2].length) * 120 ≤ lim)) (again3 ((i64.wrap (y4.1 + 1), (y6.1, (y7.1, (y7.2.1, (y7.2.2.1, (y4.2.2.2.2.2.1 ++ [y6.2], y7.2.2.2)))))))))))))
 (K2 ((y4.2.1, (y4.2.2.1, (y4.2.2.2.1, (y4.2.2.2.2.1, (y4.2.2.2.2.2.1, y4.2.2.2.2.2.2))))))))
 ((0, ((x1.1, (setD 0 x1.2.1 (0) 0, x1.2.2)), (0, (0, (false, ([], y0)))))))))
theorem e31 : g31' = R31 g29' g85' g86' g87' := by kernel_rfl
def F31 : Nat → (Int × P2Sg) → Int → (List Int) → Option (P14Sg) := R31 F29 F85 F86 F87
theorem F31_eq : g31' = F31 := by
  rw [e31, F29_eq, F85_eq, F86_eq, F87_eq, F31]
def g10' (N : Nat) (x1 : Int × P2Sg) (x2 : Int) (x3 : List Int) : Option Bool := f10 N (x1, x2, x3)
def R10 (F26 : Nat → Option Bool) (F29 : Nat → (Int × P2Sg) → Int → Bool → (List Int) → Option (P13Sg)) (F31 : Nat → (Int × P2Sg) → Int → (List Int) → Option (P14Sg)) (N : Nat) (x1 : Int × P2Sg) (x2 : Int) (x3 : List Int) : Option Bool :=
  bindS (F26 N ) (fun (y0 : Bool) => br (!y0)
 (some false)
 (br (decide (1024 < (↑x3.length : Int)))
 (bindS (F26 N ) (fun (y1 : Bool) => some y1))
 (bindS (F31 N x1 (i64.wrap x2) x3) (fun (y2 : P14Sg) => fixN N (fun again3 (y4 : Int × Int × P2Sg) => br (decide (y4.1 < (↑y2.2.2.length : Int)))
 (chk (decide (0 ≤ y4.1) && decide (y4.1 < (↑y2.2.2.length : Int))) (chk (decide (0 ≤ y4.1) && decide (y4.1 < (↑y2.2.2.length : Int))) (bindS (F29 N y4.2 ((y2.2.2.getD y4.1.toNat (0, (0, 0, 0, 0, 0, false, false, 0, 0), 0, 0, 0, 0, 0, false)).2.2.2.2.2.1) ((y2.2.2.getD y4.1.toNat (0, (0, 0, 0, 0, 0, false, false, 0, 0), 0, 0, 0, 0, 0, false)).2.2.2.2.2.2.2) x3) (fun (y5 : P13Sg) => chk (decide (0 ≤ y4.1) && decide (y4.1 < (↑y2.2.2.length : Int))) (br (!((Ty.int u64).pair (((Ty.int i64).pair ((Ty.int i64).pair ((Ty.int i64).pair ((Ty.int i64).pair ((Ty.int i64).pair (Ty.bool.pair (Ty.bool.pair ((Ty.int i64).pair (Ty.int i64))))))))).pair ((Ty.int i64).pair ((Ty.int u64).pair ((Ty.int u64).pair ((Ty.int u64).pair ((Ty.int u64).pair Ty.bool))))))).eq y5.2 (y2.2.2.getD y4.1.toNat (0, (0, 0, 0, 0, 0, false, false, 0, 0), 0, 0, 0, 0, 0, false)))
 (some false)
 (again3 ((i64.wrap (y4.1 + 1), y5.1))))))))
 (jp (fun (y6 : Bool) => some y6)
 (fun K7 => bindS (F26 N ) (fun (y8 : Bool) => br y8
 (K7 (((Ty.int u64).pair ((Ty.arr 32 (Ty.int u64)).pair (Ty.int i64))).eq y2.1 y4.2))
 (K7 false)))))
 ((0, (x1.1, (setD 0 x1.2.1 (0) 0, x1.2.2))))))))
theorem e10 : g10' = R10 g26' g29' g31' := by kernel_rfl
def F10 : Nat → (Int × P2Sg) → Int → (List Int) → Option Bool := R10 F26 F29 F31
theorem F10_eq : g10' = F10 := by
  rw [e10, F26_eq, F29_eq, F31_eq, F10]
def g60' (N : Nat) (x1 : List Int) : Option Int := f60 N (x1)
def F60 (N : Nat) (x1 : List Int) : Option Int :=
  fixN N (fun again0 (y1 : P0Sg) => jp (fun (y2 : Bool) => br y2
 (chk (decide (0 ≤ y1.2.2) && decide (y1.2.2 < (↑x1.length : Int))) (again0 ((u64.wrap (y1.1 + u64.wrap (y1.2.1 * u64.wrap (x1.getD y1.2.2.toNat 0))), (u64.wrap (y1.2.1 * 256), i64.wrap (y1.2.2 + 1))))))
 (some y1.1))
 (fun K3 => br (decide (y1.2.2 < (↑x1.length : Int)))
 (K3 (decide (y1.2.2 < 8)))
 (K3 false)))
 ((0, (1, 0)))
theorem F60_eq : g60' = F60 := by kernel_rfl
def g40' (N : Nat) (x1 : Int) : Option Int := f40 N (x1)
def F40 (N : Nat) (x1 : Int) : Option Int :=
  br (decide (x1 < 1))
 (some (0))
 (fixN N (fun again0 (y1 : Int × Int) => br (decide (y1.2 < (↑[2, 2, 6, 7, 4, 13, 15, 2, 2, 2, 2, 18].length : Int)))
 (chk (decide (0 ≤ y1.2) && decide (y1.2 < (↑[2, 2, 6, 7, 4, 13, 15, 2, 2, 2, 2, 18].length : Int))) (br (decide (y1.1 ≤ [2, 2, 6, 7, 4, 13, 15, 2, 2, 2, 2, 18].getD y1.2.toNat 0))
 (some (i64.wrap (y1.2 + 1)))
 (chk (decide (0 ≤ y1.2) && decide (y1.2 < (↑[2, 2, 6, 7, 4, 13, 15, 2, 2, 2, 2, 18].length : Int))) (again0 ((i64.wrap (y1.1 - [2, 2, 6, 7, 4, 13, 15, 2, 2, 2, 2, 18].getD y1.2.toNat 0), i64.wrap (y1.2 + 1)))))))
 (some (0)))
 ((x1, 0)))
theorem F40_eq : g40' = F40 := by kernel_rfl
def g96' (N : Nat)  : Option (List (List UInt8)) := f96 N ()
def F96 (N : Nat)  : Option (List (List UInt8)) :=
  some ([([108, 117, 105] : List UInt8), ([97, 117, 105, 112, 99] : List UInt8), ([106, 97, 108] : List UInt8), ([106, 97, 108, 114] : List UInt8), ([98, 101, 113] : List UInt8), ([98, 110, 101] : List UInt8), ([98, 108, 116] : List UInt8), ([98, 103, 101] : List UInt8), ([98, 108, 116, 117] : List UInt8), ([98, 103, 101, 117] : List UInt8), ([108, 98] : List UInt8), ([108, 104] : List UInt8), ([108, 119] : List UInt8), ([108, 100] : List UInt8), ([108, 98, 117] : List UInt8), ([108, 104, 117] : List UInt8), ([108, 119, 117] : List UInt8), ([115, 98] : List UInt8), ([115, 104] : List UInt8), ([115, 119] : List UInt8), ([115, 100] : List UInt8), ([97, 100, 100, 105] : List UInt8), ([115, 108, 116, 105] : List UInt8), ([115, 108, 116, 105, 117] : List UInt8), ([120, 111, 114, 105] : List UInt8), ([111, 114, 105] : List UInt8), ([97, 110, 100, 105] : List UInt8), ([115, 108, 108, 105] : List UInt8), ([115, 114, 108, 105] : List UInt8), ([115, 114, 97, 105] : List UInt8), ([97, 100, 100, 105, 119] : List UInt8), ([115, 108, 108, 105, 119] : List UInt8), ([115, 114, 108, 105, 119] : List UInt8), ([115, 114, 97, 105, 119] : List UInt8), ([97, 100, 100] : List UInt8), ([115, 117, 98] : List UInt8), ([115, 108, 108] : List UInt8), ([115, 108, 116] : List UInt8), ([115, 108, 116, 117] : List UInt8), ([120, 111, 114] : List UInt8), ([115, 114, 108] : List UInt8), ([115, 114, 97] : List UInt8), ([111, 114] : List UInt8), ([97, 110, 100] : List UInt8), ([97, 100, 100, 119] : List UInt8), ([115, 117, 98, 119] : List UInt8), ([115, 108, 108, 119] : List UInt8), ([115, 114, 108, 119] : List UInt8), ([115, 114, 97, 119] : List UInt8), ([102, 101, 110, 99, 101] : List UInt8), ([102, 101, 110, 99, 101, 46, 116, 115, 111] : List UInt8), ([101, 99, 97, 108, 108] : List UInt8), ([101, 98, 114, 101, 97, 107] : List UInt8), ([108, 114, 46, 119] : List UInt8), ([108, 114, 46, 100] : List UInt8), ([115, 99, 46, 119] : List UInt8), ([115, 99, 46, 100] : List UInt8), ([97, 109, 111, 115, 119, 97, 112, 46, 119] : List UInt8), ([97, 109, 111, 97, 100, 100, 46, 119] : List UInt8), ([97, 109, 111, 120, 111, 114, 46, 119] : List UInt8), ([97, 109, 111, 97, 110, 100, 46, 119] : List UInt8), ([97, 109, 111, 111, 114, 46, 119] : List UInt8), ([97, 109, 111, 109, 105, 110, 46, 119] : List UInt8), ([97, 109, 111, 109, 97, 120, 46, 119] : List UInt8), ([97, 109, 111, 109, 105, 110, 117, 46, 119] : List UInt8), ([97, 109, 111, 109, 97, 120, 117, 46, 119] : List UInt8), ([97, 109, 111, 115, 119, 97, 112, 46, 100] : List UInt8), ([97, 109, 111, 97, 100, 100, 46, 100] : List UInt8), ([97, 109, 111, 120, 111, 114, 46, 100] : List UInt8), ([97, 109, 111, 97, 110, 100, 46, 100] : List UInt8), ([97, 109, 111, 111, 114, 46, 100] : List UInt8), ([97, 109, 111, 109, 105, 110, 46, 100] : List UInt8), ([97, 109, 111, 109, 97, 120, 46, 100] : List UInt8), ([97, 109, 111, 109, 105, 110, 117, 46, 100] : List UInt8), ([97, 109, 111, 109, 97, 120, 117, 46, 100] : List UInt8)])
theorem F96_eq : g96' = F96 := by kernel_rfl
def g47' (N : Nat) (x1 : Int) : Option (List UInt8) := f47 N (x1)
def R47 (F96 : Nat → Option (List (List UInt8))) (N : Nat) (x1 : Int) : Option (List UInt8) :=
  bindS (F96 N ) (fun (y0 : List (List UInt8)) => jp (fun (y1 : Bool) => br y1
 (some [])
 (chk (decide (0 ≤ i64.wrap (x1 - 1)) && decide (i64.wrap (x1 - 1) < (↑y0.length : Int))) (some (y0.getD (i64.wrap (x1 - 1)).toNat []))))
 (fun K2 => br (decide (x1 < 1))
 (K2 true)
 (K2 (decide ((↑y0.length : Int) < x1)))))
theorem e47 : g47' = R47 g96' := by kernel_rfl
def F47 : Nat → Int → Option (List UInt8) := R47 F96
theorem F47_eq : g47' = F47 := by
  rw [e47, F96_eq, F47]
def g115' (N : Nat) (x1 : Int) : Option Int := f115 N (x1)
def R115 (F40 : Nat → Int → Option Int) (F47 : Nat → Int → Option (List UInt8)) (N : Nat) (x1 : Int) : Option Int :=
  bindS (F47 N x1) (fun (y0 : List UInt8) => bindS (F40 N x1) (fun (y1 : Int) => br (decide (y1 = 0))
 (some (0))
 (chk (decide (0 ≤ i64.wrap ((↑y0.length : Int) - 1)) && decide (i64.wrap ((↑y0.length : Int) - 1) < (↑y0.length : Int))) (br (y0 == ([108, 117, 105] : List UInt8))
 (some (55))
 (br (y0 == ([97, 117, 105, 112, 99] : List UInt8))
 (some (23))
 (br (y0 == ([106, 97, 108] : List UInt8))
 (some (111))
 (br (y0 == ([106, 97, 108, 114] : List UInt8))
 (some (103))
 (br (decide (y1 = 3))
 (some (99))
 (br (decide (y1 = 4))
 (some (3))
 (br (decide (y1 = 5))
 (some (35))
 (jp (fun (y2 : Bool) => br y2
 (some (27))
 (br (decide (y1 = 6))
 (some (19))
 (jp (fun (y3 : Bool) => br y3
 (some (59))
 (br (decide (y1 = 7))
 (some (51))
 (br (decide (y1 = 8))
 (some (15))
 (br (decide (y1 = 9))
 (some (115))
 (some (47))))))
 (fun K4 => br (decide (y1 = 7))
 (K4 (decide ((↑(y0.getD (i64.wrap ((↑y0.length : Int) - 1)).toNat 0).toNat : Int) = 119)))
 (K4 false)))))
 (fun K5 => br (decide (y1 = 6))
 (K5 (decide ((↑(y0.getD (i64.wrap ((↑y0.length : Int) - 1)).toNat 0).toNat : Int) = 119)))
 (K5 false)))))))))))))
theorem e115 : g115' = R115 g40' g47' := by kernel_rfl
def F115 : Nat → Int → Option Int := R115 F40 F47
theorem F115_eq : g115' = F115 := by
  rw [e115, F40_eq, F47_eq, F115]
def g116' (N : Nat) (x1 : Int) : Option Int := f116 N (x1)
def R116 (F40 : Nat → Int → Option Int) (F47 : Nat → Int → Option (List UInt8)) (N : Nat) (x1 : Int) : Option Int :=
  bindS (F40 N x1) (fun (y0 : Int) => bindS (F47 N x1) (fun (y1 : List UInt8) => br (decide (y0 = 3))
 (chk (decide (0 ≤ i64.wrap (x1 - 5)) && decide (i64.wrap (x1 - 5) < (↑[0, 1, 4, 5, 6, 7].length : Int))) (some ([0, 1, 4, 5, 6, 7].getD (i64.wrap (x1 - 5)).toNat 0)))
 (br (decide (y0 = 4))
 (some (u32.wrap (i64.wrap (x1 - 11))))
 (br (decide (y0 = 5))
 (some (u32.wrap (i64.wrap (x1 - 18))))
 (jp (fun (y2 : Bool) => br y2
 (chk (decide (0 ≤ i64.wrap ((↑y1.length : Int) - 1)) && decide (i64.wrap ((↑y1.length : Int) - 1) < (↑y1.length : Int))) (br (decide ((↑(y1.getD (i64.wrap ((↑y1.length : Int) - 1)).toNat 0).toNat : Int) = 119))
 (some (2))
 (some (3))))
 (jp (fun (y3 : Bool) => br y3
 (some (0))
 (jp (fun (y4 : Bool) => br y4
 (some (1))
 (jp (fun (y5 : Bool) => br y5
 (some (2))
 (jp (fun (y6 : Bool) => br y6
 (some (3))
 (jp (fun (y7 : Bool) => br y7
 (some (4))
 (jp (fun (y8 : Bool) => br y8
 (some (5))
 (jp (fun (y9 : Bool) => br y9
 (some (6))
 (jp (fun (y10 : Bool) => br y10
 (some (7))
 (some (0)))
 (fun K11 => br (y1 == ([97, 110, 100] : List UInt8))
 (K11 true)
 (K11 (y1 == ([97, 110, 100, 105] : List UInt8))))))
 (fun K12 => br (y1 == ([111, 114] : List UInt8))
 (K12 true)
 (K12 (y1 == ([111, 114, 105] : List UInt8))))))
 (fun K13 => br (y1 == ([115, 114, 108] : List UInt8))
 (K13 true)
 (br (y1 == ([115, 114, 108, 105] : List UInt8))
 (K13 true)
 (br (y1 == ([115, 114, 108, 119] : List UInt8))
 (K13 true)
 (br (y1 == ([115, 114, 108, 105, 119] : List UInt8))
 (K13 true)
 (br (y1 == ([115, 114, 97] : List UInt8))
 (K13 true)
 (br (y1 == ([115, 114, 97, 105] : List UInt8))
 (K13 true)
 (br (y1 == ([115, 114, 97, 119] : List UInt8))
 (K13 true)
 (K13 (y1 == ([115, 114, 97, 105, 119] : List UInt8))))))))))))
 (fun K14 => br (y1 == ([120, 111, 114] : List UInt8))
 (K14 true)
 (K14 (y1 == ([120, 111, 114, 105] : List UInt8))))))
 (fun K15 => br (y1 == ([115, 108, 116, 117] : List UInt8))
 (K15 true)
 (K15 (y1 == ([115, 108, 116, 105, 117] : List UInt8))))))
 (fun K16 => br (y1 == ([115, 108, 116] : List UInt8))
 (K16 true)
 (K16 (y1 == ([115, 108, 116, 105] : List UInt8))))))
 (fun K17 => br (y1 == ([115, 108, 108] : List UInt8))
 (K17 true)
 (br (y1 == ([115, 108, 108, 105] : List UInt8))
 (K17 true)
 (br (y1 == ([115, 108, 108, 119] : List UInt8))
 (K17 true)
 (K17 (y1 == ([115, 108, 108, 105, 119] : List UInt8))))))))
 (fun K18 => br (!decide (y0 = 6))
 (K18 (!decide (y0 = 7)))
 (K18 false))))
 (fun K19 => br (decide (y0 = 10))
 (K19 true)
 (br (decide (y0 = 11))
 (K19 true)
 (K19 (decide (y0 = 12))))))))))
theorem e116 : g116' = R116 g40' g47' := by kernel_rfl
def F116 : Nat → Int → Option Int := R116 F40 F47
theorem F116_eq : g116' = F116 := by
  rw [e116, F40_eq, F47_eq, F116]
def g117' (N : Nat) (x1 : Int) : Option Bool := f117 N (x1)
def R117 (F47 : Nat → Int → Option (List UInt8)) (N : Nat) (x1 : Int) : Option Bool :=
  bindS (F47 N x1) (fun (y0 : List UInt8) => jp (fun (y1 : Bool) => some y1)
 (fun K2 => br (y0 == ([115, 117, 98] : List UInt8))
 (K2 true)
 (br (y0 == ([115, 117, 98, 119] : List UInt8))
 (K2 true)
 (br (y0 == ([115, 114, 97] : List UInt8))
 (K2 true)
 (br (y0 == ([115, 114, 97, 105] : List UInt8))
 (K2 true)
 (br (y0 == ([115, 114, 97, 119] : List UInt8))
 (K2 true)
 (K2 (y0 == ([115, 114, 97, 105, 119] : List UInt8)))))))))
theorem e117 : g117' = R117 g47' := by kernel_rfl
def F117 : Nat → Int → Option Bool := R117 F47
theorem F117_eq : g117' = F117 := by
  rw [e117, F47_eq, F117]
def g44' (N : Nat) (x1 : Int) : Option Int := f44 N (x1)
def R44 (F47 : Nat → Int → Option (List UInt8)) (N : Nat) (x1 : Int) : Option Int :=
  bindS (F47 N x1) (fun (y0 : List UInt8) => jp (fun (y1 : Bool) => br y1
 (some (6))
 (jp (fun (y2 : Bool) => br y2
 (some (5))
 (some (0)))
 (fun K3 => br (y0 == ([115, 108, 108, 105, 119] : List UInt8))
 (K3 true)
 (br (y0 == ([115, 114, 108, 105, 119] : List UInt8))
 (K3 true)
 (K3 (y0 == ([115, 114, 97, 105, 119] : List UInt8)))))))
 (fun K4 => br (y0 == ([115, 108, 108, 105] : List UInt8))
 (K4 true)
 (br (y0 == ([115, 114, 108, 105] : List UInt8))
 (K4 true)
 (K4 (y0 == ([115, 114, 97, 105] : List UInt8))))))
theorem e44 : g44' = R44 g47' := by kernel_rfl
def F44 : Nat → Int → Option Int := R44 F47
theorem F44_eq : g44' = F44 := by
  rw [e44, F47_eq, F44]
def g119' (N : Nat) (x1 : Int) : Option Int := f119 N (x1)
def F119 (N : Nat) (x1 : Int) : Option Int :=
  jp (fun (y0 : Bool) => br y0
 (some (2))
 (jp (fun (y1 : Bool) => br y1
 (some (3))
 (chk (decide (0 ≤ (i64.wrap (x1 - 58)).tmod 9) && decide ((i64.wrap (x1 - 58)).tmod 9 < (↑[1, 0, 4, 12, 8, 16, 20, 24, 28].length : Int))) (some ([1, 0, 4, 12, 8, 16, 20, 24, 28].getD ((i64.wrap (x1 - 58)).tmod 9).toNat 0))))
 (fun K2 => br (decide (x1 = 56))
 (K2 true)
 (K2 (decide (x1 = 57))))))
 (fun K3 => br (decide (x1 = 54))
 (K3 true)
 (K3 (decide (x1 = 55))))
theorem F119_eq : g119' = F119 := by kernel_rfl
def g113' (N : Nat) (x1 : Int) (x2 : Int) : Option Bool := f113 N (x1, x2)
def R113 (F115 : Nat → Int → Option Int) (F116 : Nat → Int → Option Int) (F117 : Nat → Int → Option Bool) (F119 : Nat → Int → Option Int) (F40 : Nat → Int → Option Int) (F44 : Nat → Int → Option Int) (N : Nat) (x1 : Int) (x2 : Int) : Option Bool :=
  bindS (F40 N x2) (fun (y0 : Int) => bindS (F115 N x2) (fun (y1 : Int) => br (!decide (x1.tmod 128 = y1))
 (some false)
 (jp (fun (y2 : Bool) => br y2
 (some true)
 (br (decide (y0 = 9))
 (jp (fun (y3 : Bool) => some y3)
 (fun K4 => br (decide (x1 = 115))
 (br (decide (x2 = 52))
 (K4 true)
 (br (decide (x1 = 1048691))
 (K4 (decide (x2 = 53)))
 (K4 false)))
 (br (decide (x1 = 1048691))
 (K4 (decide (x2 = 53)))
 (K4 false))))
 (br (decide (y0 = 8))
 (jp (fun (y5 : Bool) => some y5)
 (fun K6 => br (decide ((x1.fdiv (2 ^ Min.min (12) u32.bits)).tmod 8 = 0))
 (K6 (decide (x1.fdiv (2 ^ Min.min (20) u32.bits) = 2099) == decide (x2 = 51)))
 (K6 false)))
 (bindS (F116 N x2) (fun (y7 : Int) => br (!decide ((x1.fdiv (2 ^ Min.min (12) u32.bits)).tmod 8 = y7))
 (some false)
 (jp (fun (y8 : Int) => jp (fun (y9 : Bool) => br y9
 (some (decide (x1.fdiv (2 ^ Min.min (25) u32.bits) = y8)))
 (bindS (F44 N x2) (fun (y10 : Int) => br (decide (y10 = 6))
 (some (decide (u32.wrap ((x1.fdiv (2 ^ Min.min (25) u32.bits)).tdiv 2) = u32.wrap (y8.tdiv 2))))
 (br (decide (y0 = 10))
 (jp (fun (y11 : Bool) => some y11)
 (fun K12 => br (decide (x1.fdiv (2 ^ Min.min (27) u32.bits) = 2))
 (K12 (decide ((x1.fdiv (2 ^ Min.min (20) u32.bits)).tmod 32 = 0)))
 (K12 false)))
 (br (decide (10 < y0))
 (bindS (F119 N x2) (fun (y13 : Int) => some (decide (x1.fdiv (2 ^ Min.min (27) u32.bits) = y13))))
 (some true))))))
 (fun K14 => br (decide (y0 = 7))
 (K14 true)
 (bindS (F44 N x2) (fun (y15 : Int) => K14 (decide (y15 = 5))))))
 (fun K16 => bindS (F117 N x2) (fun (y17 : Bool) => br y17
 (K16 (32))
 (K16 (0))))))))))
 (fun K18 => br (decide (y0 = 1))
 (K18 true)
 (K18 (decide (x2 = 3)))))))
theorem e113 : g113' = R113 g115' g116' g117' g119' g40' g44' := by kernel_rfl
def F113 : Nat → Int → Int → Option Bool := R113 F115 F116 F117 F119 F40 F44
theorem F113_eq : g113' = F113 := by
  rw [e113, F115_eq, F116_eq, F117_eq, F119_eq, F40_eq, F44_eq, F113]
def g41' (N : Nat) (x1 : Int) : Option Bool := f41 N (x1)
def R41 (F40 : Nat → Int → Option Int) (N : Nat) (x1 : Int) : Option Bool :=
  bindS (F40 N x1) (fun (y0 : Int) => jp (fun (y1 : Bool) => some y1)
 (fun K2 => br (!decide (y0 = 0))
 (br (!decide (y0 = 3))
 (br (!decide (y0 = 5))
 (br (!decide (y0 = 8))
 (K2 (!decide (y0 = 9)))
 (K2 false))
 (K2 false))
 (K2 false))
 (K2 false)))
theorem e41 : g41' = R41 g40' := by kernel_rfl
def F41 : Nat → Int → Option Bool := R41 F40
theorem F41_eq : g41' = F41 := by
  rw [e41, F40_eq, F41]
def g42' (N : Nat) (x1 : Int) : Option Bool := f42 N (x1)
def R42 (F40 : Nat → Int → Option Int) (F47 : Nat → Int → Option (List UInt8)) (N : Nat) (x1 : Int) : Option Bool :=
  bindS (F40 N x1) (fun (y0 : Int) => jp (fun (y1 : Bool) => some y1)
 (fun K2 => bindS (F47 N x1) (fun (y3 : List UInt8) => br (y3 == ([106, 97, 108, 114] : List UInt8))
 (K2 true)
 (br (decide (3 ≤ y0))
 (br (decide (y0 ≤ 7))
 (K2 true)
 (K2 (decide (10 ≤ y0))))
 (K2 (decide (10 ≤ y0)))))))
theorem e42 : g42' = R42 g40' g47' := by kernel_rfl
def F42 : Nat → Int → Option Bool := R42 F40 F47
theorem F42_eq : g42' = F42 := by
  rw [e42, F40_eq, F47_eq, F42]
def g43' (N : Nat) (x1 : Int) : Option Bool := f43 N (x1)
def R43 (F40 : Nat → Int → Option Int) (N : Nat) (x1 : Int) : Option Bool :=
  bindS (F40 N x1) (fun (y0 : Int) => jp (fun (y1 : Bool) => some y1)
 (fun K2 => br (decide (y0 = 3))
 (K2 true)
 (br (decide (y0 = 5))
 (K2 true)
 (br (decide (y0 = 7))
 (K2 true)
 (K2 (decide (11 ≤ y0)))))))
theorem e43 : g43' = R43 g40' := by kernel_rfl
def F43 : Nat → Int → Option Bool := R43 F40
theorem F43_eq : g43' = F43 := by
  rw [e43, F40_eq, F43]
def g45' (N : Nat) (x1 : Int) : Option Int := f45 N (x1)
def R45 (F40 : Nat → Int → Option Int) (F44 : Nat → Int → Option Int) (N : Nat) (x1 : Int) : Option Int :=
  bindS (F44 N x1) (fun (y0 : Int) => br (decide (0 < y0))
 (some (0))
 (bindS (F40 N x1) (fun (y1 : Int) => br (decide (y1 = 1))
 (some (4))
 (br (decide (y1 = 2))
 (br (decide (x1 = 3))
 (some (5))
 (some (1)))
 (br (decide (y1 = 3))
 (some (3))
 (jp (fun (y2 : Bool) => br y2
 (some (1))
 (br (decide (y1 = 5))
 (some (2))
 (some (0))))
 (fun K3 => br (decide (y1 = 4))
 (K3 true)
 (K3 (decide (y1 = 6))))))))))
theorem e45 : g45' = R45 g40' g44' := by kernel_rfl
def F45 : Nat → Int → Option Int := R45 F40 F44
theorem F45_eq : g45' = F45 := by
  rw [e45, F40_eq, F44_eq, F45]
def g173' (N : Nat) (x1 : Int) : Option (List Int) := f173 N (x1)
def F173 (N : Nat) (x1 : Int) : Option (List Int) :=
  fixN N (fun again0 (y1 : Int × List Int) => br (decide (y1.1 < 32))
 (jp (fun (y2 : Int) => chk (decide (0 ≤ y1.1) && decide (y1.1 < (↑32 : Int))) (again0 ((i64.wrap (y1.1 + 1), setD 0 y1.2 y1.1.toNat y2))))
 (fun K3 => br (decide (x1 = 1))
 (br (decide (20 ≤ y1.1))
 (K3 (i64.wrap (y1.1 - 20)))
 (K3 (-1)))
 (br (decide (x1 = 2))
 (jp (fun (y4 : Int) => jp (fun (y5 : Bool) => br y5
 (K3 (i64.wrap (y1.1 - 7)))
 (K3 y4))
 (fun K6 => br (decide (7 ≤ y1.1))
 (K6 (decide (y1.1 ≤ 11)))
 (K6 false)))
 (fun K7 => br (decide (25 ≤ y1.1))
 (K7 (i64.wrap (y1.1 - 20)))
 (K7 (-1))))
 (br (decide (x1 = 3))
 (jp (fun (y8 : Int) => jp (fun (y9 : Int) => jp (fun (y10 : Int) => jp (fun (y11 : Bool) => br y11
 (K3 (i64.wrap (y1.1 - 7)))
 (K3 y10))
 (fun K12 => br (decide (8 ≤ y1.1))
 (K12 (decide (y1.1 ≤ 11)))
 (K12 false)))
 (fun K13 => jp (fun (y14 : Bool) => br y14
 (K13 (i64.wrap (y1.1 - 20)))
 (K13 y9))
 (fun K15 => br (decide (25 ≤ y1.1))
 (K15 (decide (y1.1 ≤ 30)))
 (K15 false))))
 (fun K16 => br (decide (y1.1 = 7))
 (K16 (11))
 (K16 y8)))
 (fun K17 => br (decide (y1.1 = 31))
 (K17 (12))
 (K17 (-1))))
 (br (decide (x1 = 4))
 (br (decide (12 ≤ y1.1))
 (K3 y1.1)
 (K3 (-1)))
 (br (decide (x1 = 5))
 (jp (fun (y18 : Int) => jp (fun (y19 : Int) => jp (fun (y20 : Int) => jp (fun (y21 : Bool) => br y21
 (K3 (i64.wrap (y1.1 - 20)))
 (K3 y20))
 (fun K22 => br (decide (21 ≤ y1.1))
 (K22 (decide (y1.1 ≤ 30)))
 (K22 false)))
 (fun K23 => br (decide (y1.1 = 20))
 (K23 (11))
 (K23 y19)))
 (fun K24 => jp (fun (y25 : Bool) => br y25
 (K24 y1.1)
 (K24 y18))
 (fun K26 => br (decide (12 ≤ y1.1))
 (K26 (decide (y1.1 ≤ 19)))
 (K26 false))))
 (fun K27 => br (decide (y1.1 = 31))
 (K27 (20))
 (K27 (-1))))
 (K3 (-1))))))))
 (some y1.2))
 ((0, [0, 0, 0, 0, 0, 0, 0, 0, 0, 0, 0, 0, 0, 0, 0, 0, 0, 0, 0, 0, 0, 0, 0, 0, 0, 0, 0, 0, 0, 0, 0, 0]))
theorem F173_eq : g173' = F173 := by kernel_rfl
def g114' (N : Nat) (x1 : Int) (x2 : Int) : Option Int := f114 N (x1, x2)
def R114 (F173 : Nat → Int → Option (List Int)) (N : Nat) (x1 : Int) (x2 : Int) : Option Int :=
  bindS (F173 N x1) (fun (y0 : List Int) => fixN N (fun again1 (y2 : Int × Int) => br (decide (y2.2 < 32))
 (jp (fun (y3 : Int) => again1 ((y3, i64.wrap (y2.2 + 1))))
 (fun K4 => jp (fun (y5 : Bool) => br y5
 (K4 y2.1)
 (br (decide (y2.2 = 31))
 (chk (decide (0 ≤ y2.2) && decide (y2.2 < (↑32 : Int))) (chk (decide (0 ≤ u64.wrap (y0.getD y2.2.toNat 0))) (K4 (i64.wrap (y2.1 - i64.wrap (1 * 2 ^ Min.min (u64.wrap (y0.getD y2.2.toNat 0)).toNat i64.bits))))))
 (chk (decide (0 ≤ y2.2) && decide (y2.2 < (↑32 : Int))) (chk (decide (0 ≤ u64.wrap (y0.getD y2.2.toNat 0))) (K4 (i64.wrap (y2.1 + i64.wrap (1 * 2 ^ Min.min (u64.wrap (y0.getD y2.2.toNat 0)).toNat i64.bits))))))))
 (fun K6 => chk (decide (0 ≤ y2.2) && decide (y2.2 < (↑32 : Int))) (br (decide (y0.getD y2.2.toNat 0 < 0))
 (K6 true)
 (chk (decide (0 ≤ u64.wrap y2.2)) (K6 (decide (bits BinOp.and u32 (x2.fdiv (2 ^ Min.min (u64.wrap y2.2).toNat u32.bits)) 1 = 0))))))))
 (some y2.1))
 ((0, 0)))
theorem e114 : g114' = R114 g173' := by kernel_rfl
def F114 : Nat → Int → Int → Option Int := R114 F173
theorem F114_eq : g114' = F114 := by
  rw [e114, F173_eq, F114]
def g61' (N : Nat) (x1 : Int) : Option (P9Sg × Bool) := f61 N (x1)
def R61 (F113 : Nat → Int → Int → Option Bool) (F114 : Nat → Int → Int → Option Int) (F40 : Nat → Int → Option Int) (F41 : Nat → Int → Option Bool) (F42 : Nat → Int → Option Bool) (F43 : Nat → Int → Option Bool) (F44 : Nat → Int → Option Int) (F45 : Nat → Int → Option Int) (N : Nat) (x1 : Int) : Option (P9Sg × Bool) :=
  fixN N (fun again0 (y1 : Int) => br (decide (y1 ≤ 75))
 (bindS (F113 N x1 y1) (fun (y2 : Bool) => br (!y2)
 (again0 (i64.wrap (y1 + 1)))
 (jp (fun (y3 : P9Sg) => jp (fun (y4 : P9Sg) => jp (fun (y5 : P9Sg) => jp (fun (y6 : P9Sg) => jp (fun (y7 : P9Sg) => jp (fun (y8 : P9Sg) => jp (fun (y9 : P9Sg) => jp (fun (y10 : P9Sg) => jp (fun (y11 : P9Sg) => some ((y11, true)))
 (fun K12 => br (decide (y1 = 51))
 (K12 ((y10.1, (y10.2.1, (y10.2.2.1, (y10.2.2.2.1, (y10.2.2.2.2.1, (y10.2.2.2.2.2.1, (y10.2.2.2.2.2.2.1, (3, 3))))))))))
 (K12 y10)))
 (fun K13 => br (decide (y1 = 50))
 (K13 ((y9.1, (y9.2.1, (y9.2.2.1, (y9.2.2.2.1, (y9.2.2.2.2.1, (y9.2.2.2.2.2.1, (y9.2.2.2.2.2.2.1, (i64.wrap ((x1.fdiv (2 ^ Min.min (24) u32.bits)).tmod 16), i64.wrap ((x1.fdiv (2 ^ Min.min (20) u32.bits)).tmod 16)))))))))))
 (K13 y9)))
 (fun K14 => bindS (F40 N y1) (fun (y15 : Int) => br (decide (10 ≤ y15))
 (K14 ((y8.1, (y8.2.1, (y8.2.2.1, (y8.2.2.2.1, (y8.2.2.2.2.1, (decide ((x1.fdiv (2 ^ Min.min (26) u32.bits)).tmod 2 = 1), (decide ((x1.fdiv (2 ^ Min.min (25) u32.bits)).tmod 2 = 1), y8.2.2.2.2.2.2.2)))))))))
 (K14 y8))))
 (fun K16 => bindS (F44 N y1) (fun (y17 : Int) => br (decide (y17 = 5))
 (K16 ((y7.1, (y7.2.1, (y7.2.2.1, (y7.2.2.2.1, (i64.wrap ((x1.fdiv (2 ^ Min.min (20) u32.bits)).tmod 32), y7.2.2.2.2.2)))))))
 (K16 y7))))
 (fun K18 => bindS (F44 N y1) (fun (y19 : Int) => br (decide (y19 = 6))
 (K18 ((y6.1, (y6.2.1, (y6.2.2.1, (y6.2.2.2.1, (i64.wrap ((x1.fdiv (2 ^ Min.min (20) u32.bits)).tmod 64), y6.2.2.2.2.2)))))))
 (K18 y6))))
 (fun K20 => bindS (F45 N y1) (fun (y21 : Int) => br (decide (0 < y21))
 (bindS (F45 N y1) (fun (y22 : Int) => bindS (F114 N y22 x1) (fun (y23 : Int) => K20 ((y5.1, (y5.2.1, (y5.2.2.1, (y5.2.2.2.1, (y23, y5.2.2.2.2.2)))))))))
 (K20 y5))))
 (fun K24 => bindS (F43 N y1) (fun (y25 : Bool) => br y25
 (K24 ((y4.1, (y4.2.1, (y4.2.2.1, (i64.wrap ((x1.fdiv (2 ^ Min.min (20) u32.bits)).tmod 32), y4.2.2.2.2))))))
 (K24 y4))))
 (fun K26 => bindS (F42 N y1) (fun (y27 : Bool) => br y27
 (K26 ((y3.1, (y3.2.1, (i64.wrap ((x1.fdiv (2 ^ Min.min (15) u32.bits)).tmod 32), y3.2.2.2)))))
 (K26 y3))))
 (fun K28 => bindS (F41 N y1) (fun (y29 : Bool) => br y29
 (K28 ((y1, (i64.wrap ((x1.fdiv (2 ^ Min.min (7) u32.bits)).tmod 32), (0, (0, (0, (false, (false, (0, 0))))))))))
 (K28 ((y1, (0, (0, (0, (0, (false, (false, (0, 0)))))))))))))))
 (some (((0, (0, (0, (0, (0, (false, (false, (0, 0)))))))), false))))
 (1)
theorem e61 : g61' = R61 g113' g114' g40' g41' g42' g43' g44' g45' := by kernel_rfl
def F61 : Nat → Int → Option (P9Sg × Bool) := R61 F113 F114 F40 F41 F42 F43 F44 F45
theorem F61_eq : g61' = F61 := by
  rw [e61, F113_eq, F114_eq, F40_eq, F41_eq, F42_eq, F43_eq, F44_eq, F45_eq, F61]
def g28' (N : Nat) (x1 : Int) (x2 : List Int) : Option (P9Sg × Int) := f28 N (x1, x2)
def R28 (F60 : Nat → (List Int) → Option Int) (F61 : Nat → Int → Option (P9Sg × Bool)) (N : Nat) (x1 : Int) (x2 : List Int) : Option (P9Sg × Int) :=
  jp (fun (y0 : Bool) => br y0
 (some (((0, (0, (0, (0, (0, (false, (false, (0, 0)))))))), 4)))
 (chk (decide (0 ≤ i64.wrap x1) && decide (0 ≤ i64.wrap (i64.wrap x1 + 4)) && (i64.wrap x1).toNat.ble (i64.wrap (i64.wrap x1 + 4)).toNat && (i64.wrap (i64.wrap x1 + 4)).toNat.ble x2.length) (bindS (F60 N ((List.take ((i64.wrap (i64.wrap x1 + 4)).toNat - (i64.wrap x1).toNat) (List.drop (0 + (i64.wrap x1).toNat) x2)))) (fun (y1 : Int) => bindS (F61 N ((u32.wrap y1))) (fun (y2 : P9Sg × Bool) => br (!y2.2)
 (some (((0, (0, (0, (0, (0, (false, (false, (0, 0)))))))), 3)))
 (some ((y2.1, 0))))))))
 (fun K3 => br (!decide (x1.tmod 4 = 0))
 (K3 true)
 (br (decide (2000 < x1))
 (K3 true)
 (K3 (decide ((↑x2.length : Int) < i64.wrap (i64.wrap x1 + 4))))))
theorem e28 : g28' = R28 g60' g61' := by kernel_rfl
def F28 : Nat → Int → (List Int) → Option (P9Sg × Int) := R28 F60 F61
theorem F28_eq : g28' = F28 := by
  rw [e28, F60_eq, F61_eq, F28]
def g34' (N : Nat) (x1 : Int) : Option Int := f34 N (x1)
def R34 (F40 : Nat → Int → Option Int) (F47 : Nat → Int → Option (List UInt8)) (N : Nat) (x1 : Int) : Option Int :=
  bindS (F47 N x1) (fun (y0 : List UInt8) => bindS (F40 N x1) (fun (y1 : Int) => jp (fun (y2 : Bool) => br y2
 (some (0))
 (chk (decide (0 ≤ i64.wrap ((↑y0.length : Int) - 1)) && decide (i64.wrap ((↑y0.length : Int) - 1) < (↑y0.length : Int))) (jp (fun (y3 : Int) => br (decide (y3 = 98))
 (some (1))
 (br (decide (y3 = 104))
 (some (2))
 (br (decide (y3 = 119))
 (some (4))
 (some (8)))))
 (fun K4 => br (decide ((↑(y0.getD (i64.wrap ((↑y0.length : Int) - 1)).toNat 0).toNat : Int) = 117))
 (chk (decide (0 ≤ i64.wrap ((↑y0.length : Int) - 2)) && decide (i64.wrap ((↑y0.length : Int) - 2) < (↑y0.length : Int))) (K4 ((↑(y0.getD (i64.wrap ((↑y0.length : Int) - 2)).toNat 0).toNat : Int))))
 (K4 ((↑(y0.getD (i64.wrap ((↑y0.length : Int) - 1)).toNat 0).toNat : Int)))))))
 (fun K5 => br (decide (y1 < 4))
 (K5 true)
 (br (decide (5 < y1))
 (K5 (decide (y1 < 10)))
 (K5 false)))))
theorem e34 : g34' = R34 g40' g47' := by kernel_rfl
def F34 : Nat → Int → Option Int := R34 F40 F47
theorem F34_eq : g34' = F34 := by
  rw [e34, F40_eq, F47_eq, F34]
def g78' (N : Nat) (x1 : P9Sg) (x2 : Int) : Option Int := f78 N (x1, x2)
def R78 (F40 : Nat → Int → Option Int) (N : Nat) (x1 : P9Sg) (x2 : Int) : Option Int :=
  bindS (F40 N x1.1) (fun (y0 : Int) => jp (fun (y1 : Bool) => br y1
 (some (u64.wrap (x2 + u64.wrap x1.2.2.2.2.1)))
 (br (decide (10 ≤ y0))
 (some x2)
 (some (0))))
 (fun K2 => br (decide (y0 = 4))
 (K2 true)
 (K2 (decide (y0 = 5)))))
theorem e78 : g78' = R78 g40' := by kernel_rfl
def F78 : Nat → P9Sg → Int → Option Int := R78 F40
theorem F78_eq : g78' = F78 := by
  rw [e78, F40_eq, F78]
def g79' (N : Nat) (x1 : Int) (x2 : Int) (x3 : Int) : Option Int := f79 N (x1, x2, x3)
def R79 (F34 : Nat → Int → Option Int) (N : Nat) (x1 : Int) (x2 : Int) (x3 : Int) : Option Int :=
  bindS (F34 N x1) (fun (y0 : Int) => br (decide (y0 = 0))
 (some (0))
 (chk (!decide (u64.wrap y0 = 0)) (br (!decide (u64.wrap (u64.wrap (x2.tdiv (u64.wrap y0)) * u64.wrap y0) = x2))
 (some (4))
 (jp (fun (y1 : Bool) => br y1
 (some (3))
 (some (0)))
 (fun K2 => br (decide (x3 < y0))
 (K2 true)
 (br (decide (9000000000000000000 < x2))
 (K2 true)
 (K2 (decide (i64.wrap (x3 - y0) < i64.wrap x2)))))))))
theorem e79 : g79' = R79 g34' := by kernel_rfl
def F79 : Nat → Int → Int → Int → Option Int := R79 F34
theorem F79_eq : g79' = F79 := by
  rw [e79, F34_eq, F79]
def g35' (N : Nat) (x1 : Int) (x2 : Int) : Option Int := f35 N (x1, x2)
def F35 (N : Nat) (x1 : Int) (x2 : Int) : Option Int :=
  fixN N (fun again0 (y1 : Int × Int) => jp (fun (y2 : Bool) => br y2
 (jp (fun (y3 : Int) => again0 ((y3, i64.wrap (y1.2 + 1))))
 (fun K4 => chk (decide (0 ≤ u64.wrap y1.2)) (br (decide (bits BinOp.and u64 (x1.fdiv (2 ^ Min.min (u64.wrap y1.2).toNat u64.bits)) 1 = 1))
 (chk (decide (0 ≤ u64.wrap y1.2)) (K4 (u64.wrap (y1.1 + u64.wrap (1 * 2 ^ Min.min (u64.wrap y1.2).toNat u64.bits)))))
 (K4 y1.1))))
 (some y1.1))
 (fun K5 => br (decide (y1.2 < 64))
 (K5 (decide (y1.2 < x2)))
 (K5 false)))
 ((0, 0))
theorem F35_eq : g35' = F35 := by kernel_rfl
def g132' (N : Nat) (x1 : Int) (x2 : Int) : Option Int := f132 N (x1, x2)
def R132 (F35 : Nat → Int → Int → Option Int) (N : Nat) (x1 : Int) (x2 : Int) : Option Int :=
  bindS (F35 N x1 x2) (fun (y0 : Int) => jp (fun (y1 : Bool) => br y1
 (some y0)
 (fixN N (fun again2 (y3 : Int × Int) => br (decide (y3.2 < 64))
 (chk (decide (0 ≤ u64.wrap y3.2)) (again2 ((u64.wrap (y3.1 + u64.wrap (1 * 2 ^ Min.min (u64.wrap y3.2).toNat u64.bits)), i64.wrap (y3.2 + 1)))))
 (some y3.1))
 ((y0, x2))))
 (fun K4 => br (decide (x2 < 1))
 (K4 true)
 (br (decide (64 < x2))
 (K4 true)
 (chk (decide (0 ≤ u64.wrap (i64.wrap (x2 - 1)))) (K4 (decide (bits BinOp.and u64 (x1.fdiv (2 ^ Min.min (u64.wrap (i64.wrap (x2 - 1))).toNat u64.bits)) 1 = 0)))))))
theorem e132 : g132' = R132 g35' := by kernel_rfl
def F132 : Nat → Int → Int → Option Int := R132 F35
theorem F132_eq : g132' = F132 := by
  rw [e132, F35_eq, F132]
def g133' (N : Nat) (x1 : Int) (x2 : Int) : Option Bool := f133 N (x1, x2)
def F133 (N : Nat) (x1 : Int) (x2 : Int) : Option Bool :=
  br (!decide (x1.fdiv (2 ^ Min.min (63) u64.bits) = x2.fdiv (2 ^ Min.min (63) u64.bits)))
 (some (decide (x1.fdiv (2 ^ Min.min (63) u64.bits) = 1)))
 (some (decide (x1 < x2)))
theorem F133_eq : g133' = F133 := by kernel_rfl
def g80' (N : Nat) (x1 : Int) (x2 : Int) (x3 : Int) : Option Int := f80 N (x1, x2, x3)
def R80 (F132 : Nat → Int → Int → Option Int) (F133 : Nat → Int → Int → Option Bool) (F34 : Nat → Int → Option Int) (F35 : Nat → Int → Int → Option Int) (F40 : Nat → Int → Option Int) (F47 : Nat → Int → Option (List UInt8)) (N : Nat) (x1 : Int) (x2 : Int) (x3 : Int) : Option Int :=
  bindS (F40 N x1) (fun (y0 : Int) => bindS (F34 N x1) (fun (y1 : Int) => jp (fun (y2 : Bool) => br y2
 (bindS (F35 N x3 (i64.wrap (8 * y1))) (fun (y3 : Int) => some y3))
 (br (!decide (y0 = 12))
 (some (0))
 (bindS (F132 N x2 (i64.wrap (8 * y1))) (fun (y4 : Int) => bindS (F132 N x3 (i64.wrap (8 * y1))) (fun (y5 : Int) => bindS (F35 N x2 (i64.wrap (8 * y1))) (fun (y6 : Int) => bindS (F35 N x3 (i64.wrap (8 * y1))) (fun (y7 : Int) => bindS (F47 N x1) (fun (y8 : List UInt8) => chk (decide (0 ≤ i64.wrap ((↑y8.length : Int) - 2)) && Nat.ble (3) (i64.wrap ((↑y8.length : Int) - 2)).toNat && (i64.wrap ((↑y8.length : Int) - 2)).toNat.ble y8.length) (jp (fun (y9 : Int) => bindS (F35 N y9 (i64.wrap (8 * y1))) (fun (y10 : Int) => some y10))
 (fun K11 => br (List.take ((i64.wrap ((↑y8.length : Int) - 2)).toNat - 3) (List.drop (3) y8) == ([97, 100, 100] : List UInt8))
 (K11 (u64.wrap (y4 + y5)))
 (br (List.take ((i64.wrap ((↑y8.length : Int) - 2)).toNat - 3) (List.drop (3) y8) == ([120, 111, 114] : List UInt8))
 (K11 (u64.wrap (bits BinOp.or u64 y4 y5 - bits BinOp.and u64 y4 y5)))
 (br (List.take ((i64.wrap ((↑y8.length : Int) - 2)).toNat - 3) (List.drop (3) y8) == ([97, 110, 100] : List UInt8))
 (K11 (bits BinOp.and u64 y4 y5))
 (br (List.take ((i64.wrap ((↑y8.length : Int) - 2)).toNat - 3) (List.drop (3) y8) == ([111, 114] : List UInt8))
 (K11 (u64.wrap (u64.wrap (y4 + y5) - bits BinOp.and u64 y4 y5)))
 (br (List.take ((i64.wrap ((↑y8.length : Int) - 2)).toNat - 3) (List.drop (3) y8) == ([109, 105, 110] : List UInt8))
 (bindS (F133 N y4 y5) (fun (y12 : Bool) => br y12
 (K11 y4)
 (K11 y5)))
 (br (List.take ((i64.wrap ((↑y8.length : Int) - 2)).toNat - 3) (List.drop (3) y8) == ([109, 97, 120] : List UInt8))
 (bindS (F133 N y5 y4) (fun (y13 : Bool) => br y13
 (K11 y4)
 (K11 y5)))
 (br (List.take ((i64.wrap ((↑y8.length : Int) - 2)).toNat - 3) (List.drop (3) y8) == ([109, 105, 110, 117] : List UInt8))
 (br (decide (y6 < y7))
 (K11 y6)
 (K11 y5))
 (br (List.take ((i64.wrap ((↑y8.length : Int) - 2)).toNat - 3) (List.drop (3) y8) == ([109, 97, 120, 117] : List UInt8))
 (br (decide (y7 < y6))
 (K11 y6)
 (K11 y5))
 (K11 y5))))))))))))))))))
 (fun K14 => br (decide (y0 = 5))
 (K14 true)
 (K14 (decide (y0 = 11))))))
theorem e80 : g80' = R80 g132' g133' g34' g35' g40' g47' := by kernel_rfl
def F80 : Nat → Int → Int → Int → Option Int := R80 F132 F133 F34 F35 F40 F47
theorem F80_eq : g80' = F80 := by
  rw [e80, F132_eq, F133_eq, F34_eq, F35_eq, F40_eq, F47_eq, F80]
def g134' (N : Nat) (x1 : P9Sg) (x2 : Int) (x3 : Int) : Option Bool := f134 N (x1, x2, x3)
def R134 (F133 : Nat → Int → Int → Option Bool) (F47 : Nat → Int → Option (List UInt8)) (N : Nat) (x1 : P9Sg) (x2 : Int) (x3 : Int) : Option Bool :=
  bindS (F47 N x1.1) (fun (y0 : List UInt8) => br (y0 == ([98, 101, 113] : List UInt8))
 (some (decide (x2 = x3)))
 (br (y0 == ([98, 110, 101] : List UInt8))
 (some (!decide (x2 = x3)))
 (br (y0 == ([98, 108, 116] : List UInt8))
 (bindS (F133 N x2 x3) (fun (y1 : Bool) => some y1))
 (br (y0 == ([98, 103, 101] : List UInt8))
 (bindS (F133 N x2 x3) (fun (y2 : Bool) => some (!y2)))
 (br (y0 == ([98, 108, 116, 117] : List UInt8))
 (some (decide (x2 < x3)))
 (br (y0 == ([98, 103, 101, 117] : List UInt8))
 (some (!decide (x2 < x3)))
 (some false)))))))
theorem e134 : g134' = R134 g133' g47' := by kernel_rfl
def F134 : Nat → P9Sg → Int → Int → Option Bool := R134 F133 F47
theorem F134_eq : g134' = F134 := by
  rw [e134, F133_eq, F47_eq, F134]
def g81' (N : Nat) (x1 : P9Sg) (x2 : Int) (x3 : Int) (x4 : Int) : Option Int := f81 N (x1, x2, x3, x4)
def R81 (F134 : Nat → P9Sg → Int → Int → Option Bool) (F47 : Nat → Int → Option (List UInt8)) (N : Nat) (x1 : P9Sg) (x2 : Int) (x3 : Int) (x4 : Int) : Option Int :=
  bindS (F47 N x1.1) (fun (y0 : List UInt8) => jp (fun (y1 : Bool) => br y1
 (some (u64.wrap (x2 + u64.wrap x1.2.2.2.2.1)))
 (br (y0 == ([106, 97, 108, 114] : List UInt8))
 (some (u64.wrap (u64.wrap (x3 + u64.wrap x1.2.2.2.2.1) - (u64.wrap (x3 + u64.wrap x1.2.2.2.2.1)).tmod 2)))
 (some (u64.wrap (x2 + 4)))))
 (fun K2 => br (y0 == ([106, 97, 108] : List UInt8))
 (K2 true)
 (bindS (F134 N x1 x3 x4) (fun (y3 : Bool) => K2 y3))))
theorem e81 : g81' = R81 g134' g47' := by kernel_rfl
def F81 : Nat → P9Sg → Int → Int → Int → Option Int := R81 F134 F47
theorem F81_eq : g81' = F81 := by
  rw [e81, F134_eq, F47_eq, F81]
def g135' (N : Nat) (x1 : Int) : Option Int := f135 N (x1)
def F135 (N : Nat) (x1 : Int) : Option Int :=
  jp (fun (y0 : Bool) => br y0
 (some (0))
 (some x1))
 (fun K1 => br (decide (x1 < 0))
 (K1 true)
 (K1 (decide (31 < x1))))
theorem F135_eq : g135' = F135 := by kernel_rfl
def g82' (N : Nat) (x1 : P9Sg) : Option Int := f82 N (x1)
def R82 (F135 : Nat → Int → Option Int) (F41 : Nat → Int → Option Bool) (N : Nat) (x1 : P9Sg) : Option Int :=
  bindS (F41 N x1.1) (fun (y0 : Bool) => br (!y0)
 (some (0))
 (bindS (F135 N x1.2.1) (fun (y1 : Int) => some y1)))
theorem e82 : g82' = R82 g135' g41' := by kernel_rfl
def F82 : Nat → P9Sg → Option Int := R82 F135 F41
theorem F82_eq : g82' = F82 := by
  rw [e82, F135_eq, F41_eq, F82]
def g83' (N : Nat) (x1 : Int) (x2 : Int) : Option Int := f83 N (x1, x2)
def R83 (F132 : Nat → Int → Int → Option Int) (F34 : Nat → Int → Option Int) (F35 : Nat → Int → Int → Option Int) (F40 : Nat → Int → Option Int) (F47 : Nat → Int → Option (List UInt8)) (N : Nat) (x1 : Int) (x2 : Int) : Option Int :=
  bindS (F40 N x1) (fun (y0 : Int) => jp (fun (y1 : Bool) => br y1
 (some (0))
 (bindS (F47 N x1) (fun (y2 : List UInt8) => bindS (F34 N x1) (fun (y3 : Int) => chk (decide (0 ≤ i64.wrap ((↑y2.length : Int) - 1)) && decide (i64.wrap ((↑y2.length : Int) - 1) < (↑y2.length : Int))) (br (decide ((↑(y2.getD (i64.wrap ((↑y2.length : Int) - 1)).toNat 0).toNat : Int) = 117))
 (bindS (F35 N x2 (i64.wrap (8 * y3))) (fun (y4 : Int) => some y4))
 (bindS (F132 N x2 (i64.wrap (8 * y3))) (fun (y5 : Int) => some y5)))))))
 (fun K6 => br (!decide (y0 = 4))
 (br (!decide (y0 = 10))
 (K6 (!decide (y0 = 12)))
 (K6 false))
 (K6 false)))
theorem e83 : g83' = R83 g132' g34' g35' g40' g47' := by kernel_rfl
def F83 : Nat → Int → Int → Option Int := R83 F132 F34 F35 F40 F47
theorem F83_eq : g83' = F83 := by
  rw [e83, F132_eq, F34_eq, F35_eq, F40_eq, F47_eq, F83]
def g136' (N : Nat) (x1 : Bool) : Option Int := f136 N (x1)
def F136 (N : Nat) (x1 : Bool) : Option Int :=
  br x1
 (some (1))
 (some (0))
theorem F136_eq : g136' = F136 := by kernel_rfl
def g137' (N : Nat) (x1 : Int) (x2 : Int) : Option Int := f137 N (x1, x2)
def F137 (N : Nat) (x1 : Int) (x2 : Int) : Option Int :=
  fixN N (fun again0 (y1 : Int × Int) => br (decide (y1.2 < x2))
 (again0 ((u64.wrap (y1.1 + y1.1), i64.wrap (y1.2 + 1))))
 (some y1.1))
 ((x1, 0))
theorem F137_eq : g137' = F137 := by kernel_rfl
def g138' (N : Nat) (x1 : Int) (x2 : Int) (x3 : Int) (x4 : Int) : Option Int := f138 N (x1, x2, x3, x4)
def F138 (N : Nat) (x1 : Int) (x2 : Int) (x3 : Int) (x4 : Int) : Option Int :=
  fixN N (fun again0 (y1 : Int × Int) => br (decide (y1.2 < x2))
 (jp (fun (y2 : Int) => chk (decide (0 ≤ u64.wrap y1.2)) (again0 ((u64.wrap (y1.1 + u64.wrap (y2 * 2 ^ Min.min (u64.wrap y1.2).toNat u64.bits)), i64.wrap (y1.2 + 1)))))
 (fun K3 => br (decide (i64.wrap (y1.2 + x3) < x2))
 (chk (decide (0 ≤ u64.wrap (i64.wrap (y1.2 + x3)))) (K3 (bits BinOp.and u64 (x1.fdiv (2 ^ Min.min (u64.wrap (i64.wrap (y1.2 + x3))).toNat u64.bits)) 1)))
 (K3 x4)))
 (some y1.1))
 ((0, 0))
theorem F138_eq : g138' = F138 := by kernel_rfl
def g84' (N : Nat) (x1 : P9Sg) (x2 : Int) (x3 : Int) (x4 : Int) : Option Int := f84 N (x1, x2, x3, x4)
def R84 (F132 : Nat → Int → Int → Option Int) (F133 : Nat → Int → Int → Option Bool) (F136 : Nat → Bool → Option Int) (F137 : Nat → Int → Int → Option Int) (F138 : Nat → Int → Int → Int → Int → Option Int) (F35 : Nat → Int → Int → Option Int) (F40 : Nat → Int → Option Int) (F47 : Nat → Int → Option (List UInt8)) (N : Nat) (x1 : P9Sg) (x2 : Int) (x3 : Int) (x4 : Int) : Option Int :=
  bindS (F40 N x1.1) (fun (y0 : Int) => jp (fun (y1 : Int) => bindS (F35 N x3 32) (fun (y2 : Int) => bindS (F47 N x1.1) (fun (y3 : List UInt8) => br (y3 == ([108, 117, 105] : List UInt8))
 (some (u64.wrap x1.2.2.2.2.1))
 (br (y3 == ([97, 117, 105, 112, 99] : List UInt8))
 (some (u64.wrap (x2 + u64.wrap x1.2.2.2.2.1)))
 (jp (fun (y4 : Bool) => br y4
 (some (u64.wrap (x2 + 4)))
 (jp (fun (y5 : Bool) => br y5
 (some (u64.wrap (x3 + y1)))
 (br (y3 == ([115, 117, 98] : List UInt8))
 (some (u64.wrap (u64.wrap (x3 + bits BinOp.xor u64 (if u64.signed = true then -1 else u64.max) y1) + 1)))
 (jp (fun (y6 : Bool) => br y6
 (bindS (F133 N x3 y1) (fun (y7 : Bool) => bindS (F136 N y7) (fun (y8 : Int) => some y8)))
 (jp (fun (y9 : Bool) => br y9
 (bindS (F136 N ((decide (x3 < y1)))) (fun (y10 : Int) => some y10))
 (jp (fun (y11 : Bool) => br y11
 (some (u64.wrap (bits BinOp.or u64 x3 y1 - bits BinOp.and u64 x3 y1)))
 (jp (fun (y12 : Bool) => br y12
 (some (u64.wrap (u64.wrap (x3 + y1) - bits BinOp.and u64 x3 y1)))
 (jp (fun (y13 : Bool) => br y13
 (some (bits BinOp.and u64 x3 y1))
 (jp (fun (y14 : Bool) => br y14
 (bindS (F137 N x3 (i64.wrap (y1.tmod 64))) (fun (y15 : Int) => some y15))
 (jp (fun (y16 : Bool) => br y16
 (bindS (F138 N x3 64 (i64.wrap (y1.tmod 64)) 0) (fun (y17 : Int) => some y17))
 (jp (fun (y18 : Bool) => br y18
 (bindS (F138 N x3 64 (i64.wrap (y1.tmod 64)) (x3.fdiv (2 ^ Min.min (63) u64.bits))) (fun (y19 : Int) => some y19))
 (jp (fun (y20 : Bool) => br y20
 (bindS (F132 N (u64.wrap (x3 + y1)) 32) (fun (y21 : Int) => some y21))
 (br (y3 == ([115, 117, 98, 119] : List UInt8))
 (bindS (F132 N (u64.wrap (u64.wrap (x3 + bits BinOp.xor u64 (if u64.signed = true then -1 else u64.max) y1) + 1)) 32) (fun (y22 : Int) => some y22))
 (jp (fun (y23 : Bool) => br y23
 (bindS (F137 N x3 (i64.wrap (y1.tmod 32))) (fun (y24 : Int) => bindS (F132 N y24 32) (fun (y25 : Int) => some y25)))
 (jp (fun (y26 : Bool) => br y26
 (bindS (F138 N y2 32 (i64.wrap (y1.tmod 32)) 0) (fun (y27 : Int) => bindS (F132 N y27 32) (fun (y28 : Int) => some y28)))
 (jp (fun (y29 : Bool) => br y29
 (bindS (F138 N y2 32 (i64.wrap (y1.tmod 32)) (y2.fdiv (2 ^ Min.min (31) u64.bits))) (fun (y30 : Int) => bindS (F132 N y30 32) (fun (y31 : Int) => some y31)))
 (some (0)))
 (fun K32 => br (y3 == ([115, 114, 97, 119] : List UInt8))
 (K32 true)
 (K32 (y3 == ([115, 114, 97, 105, 119] : List UInt8))))))
 (fun K33 => br (y3 == ([115, 114, 108, 119] : List UInt8))
 (K33 true)
 (K33 (y3 == ([115, 114, 108, 105, 119] : List UInt8))))))
 (fun K34 => br (y3 == ([115, 108, 108, 119] : List UInt8))
 (K34 true)
 (K34 (y3 == ([115, 108, 108, 105, 119] : List UInt8)))))))
 (fun K35 => br (y3 == ([97, 100, 100, 119] : List UInt8))
 (K35 true)
 (K35 (y3 == ([97, 100, 100, 105, 119] : List UInt8))))))
 (fun K36 => br (y3 == ([115, 114, 97] : List UInt8))
 (K36 true)
 (K36 (y3 == ([115, 114, 97, 105] : List UInt8))))))
 (fun K37 => br (y3 == ([115, 114, 108] : List UInt8))
 (K37 true)
 (K37 (y3 == ([115, 114, 108, 105] : List UInt8))))))
 (fun K38 => br (y3 == ([115, 108, 108] : List UInt8))
 (K38 true)
 (K38 (y3 == ([115, 108, 108, 105] : List UInt8))))))
 (fun K39 => br (y3 == ([97, 110, 100] : List UInt8))
 (K39 true)
 (K39 (y3 == ([97, 110, 100, 105] : List UInt8))))))
 (fun K40 => br (y3 == ([111, 114] : List UInt8))
 (K40 true)
 (K40 (y3 == ([111, 114, 105] : List UInt8))))))
 (fun K41 => br (y3 == ([120, 111, 114] : List UInt8))
 (K41 true)
 (K41 (y3 == ([120, 111, 114, 105] : List UInt8))))))
 (fun K42 => br (y3 == ([115, 108, 116, 117] : List UInt8))
 (K42 true)
 (K42 (y3 == ([115, 108, 116, 105, 117] : List UInt8))))))
 (fun K43 => br (y3 == ([115, 108, 116] : List UInt8))
 (K43 true)
 (K43 (y3 == ([115, 108, 116, 105] : List UInt8)))))))
 (fun K44 => br (y3 == ([97, 100, 100] : List UInt8))
 (K44 true)
 (K44 (y3 == ([97, 100, 100, 105] : List UInt8))))))
 (fun K45 => br (y3 == ([106, 97, 108] : List UInt8))
 (K45 true)
 (K45 (y3 == ([106, 97, 108, 114] : List UInt8)))))))))
 (fun K46 => br (decide (y0 = 6))
 (K46 (u64.wrap x1.2.2.2.2.1))
 (K46 x4)))
theorem e84 : g84' = R84 g132' g133' g136' g137' g138' g35' g40' g47' := by kernel_rfl
def F84 : Nat → P9Sg → Int → Int → Int → Option Int := R84 F132 F133 F136 F137 F138 F35 F40 F47
theorem F84_eq : g84' = F84 := by
  rw [e84, F132_eq, F133_eq, F136_eq, F137_eq, F138_eq, F35_eq, F40_eq, F47_eq, F84]
def g30' (N : Nat) (x1 : Int × P2Sg) (x2 : Int) (x3 : Bool) (x4 : List Int) : Option (P13Sg) := f30 N (x1, x2, x3, x4)
def R30 (F28 : Nat → Int → (List Int) → Option (P9Sg × Int)) (F34 : Nat → Int → Option Int) (F35 : Nat → Int → Int → Option Int) (F40 : Nat → Int → Option Int) (F78 : Nat → P9Sg → Int → Option Int) (F79 : Nat → Int → Int → Int → Option Int) (F80 : Nat → Int → Int → Int → Option Int) (F81 : Nat → P9Sg → Int → Int → Int → Option Int) (F82 : Nat → P9Sg → Option Int) (F83 : Nat → Int → Int → Option Int) (F84 : Nat → P9Sg → Int → Int → Int → Option Int) (N : Nat) (x1 : Int × P2Sg) (x2 : Int) (x3 : Bool) (x4 : List Int) : Option (P13Sg) :=
  bindS (F28 N x1.1 x4) (fun (y0 : P9Sg × Int) => bindS (F40 N y0.1.1) (fun (y1 : Int) => bindS (F34 N y0.1.1) (fun (y2 : Int) => chk (decide (0 ≤ y0.1.2.2.1) && decide (y0.1.2.2.1 < (↑32 : Int))) (chk (decide (0 ≤ y0.1.2.2.2.1) && decide (y0.1.2.2.2.1 < (↑32 : Int))) (jp (fun (y3 : Int) => jp (fun (y4 : Int) => jp (fun (y5 : Int × Int × P10Sg) => br (!decide (y5.1 = 0))
 (some (((x1.1, (setD 0 x1.2.1 (0) 0, y5.1)), (y5.2.1, (y5.2.2.1, (y5.1, y5.2.2.2.2))))))
 (jp (fun (y6 : Bool) => jp (fun (y7 : Int × P10Sg) => jp (fun (y8 : Int × P10Sg) => jp (fun (y9 : Int × P10Sg) => bindS (F81 N y0.1 y9.1 ((setD 0 x1.2.1 (0) 0).getD y0.1.2.2.1.toNat 0) ((setD 0 x1.2.1 (0) 0).getD y0.1.2.2.2.1.toNat 0)) (fun (y10 : Int) => bindS (F82 N y0.1) (fun (y11 : Int) => br (decide (y11 = 0))
 (some (((y10, (setD 0 x1.2.1 (0) 0, x1.2.2)), y9)))
 (jp (fun (y12 : Int × P10Sg) => chk (decide (0 ≤ y11) && decide (y11 < (↑32 : Int))) (some (((y10, (setD 0 (setD 0 x1.2.1 (0) 0) y11.toNat y12.2.2.2.1, x1.2.2)), y12))))
 (fun K13 => br y6
 (bindS (F83 N y0.1.1 x2) (fun (y14 : Int) => K13 ((y9.1, (y9.2.1, (y9.2.2.1, (y14, y9.2.2.2.2)))))))
 (jp (fun (y15 : Bool) => br y15
 (K13 ((y9.1, (y9.2.1, (y9.2.2.1, (1, y9.2.2.2.2))))))
 (br (!decide (y1 = 11))
 (bindS (F84 N y0.1 y9.1 ((setD 0 x1.2.1 (0) 0).getD y0.1.2.2.1.toNat 0) ((setD 0 x1.2.1 (0) 0).getD y0.1.2.2.2.1.toNat 0)) (fun (y16 : Int) => K13 ((y9.1, (y9.2.1, (y9.2.2.1, (y16, y9.2.2.2.2)))))))
 (K13 y9)))
 (fun K17 => br (decide (y1 = 11))
 (K17 x3)
 (K17 false))))))))
 (fun K18 => jp (fun (y19 : Bool) => br y19
 (bindS (F80 N y0.1.1 x2 ((setD 0 x1.2.1 (0) 0).getD y0.1.2.2.2.1.toNat 0)) (fun (y20 : Int) => K18 ((y8.1, (y8.2.1, (y8.2.2.1, (y8.2.2.2.1, (y8.2.2.2.2.1, (y8.2.2.2.2.2.1, (y20, y8.2.2.2.2.2.2.2))))))))))
 (K18 y8))
 (fun K21 => br (decide (y1 = 5))
 (K21 true)
 (br (decide (y1 = 12))
 (K21 true)
 (br (decide (y1 = 11))
 (K21 (!x3))
 (K21 false))))))
 (fun K22 => br (decide (y1 = 11))
 (K22 ((y7.1, (y7.2.1, (y7.2.2.1, (y7.2.2.2.1, (y7.2.2.2.2.1, (y7.2.2.2.2.2.1, (y7.2.2.2.2.2.2.1, x3)))))))))
 (K22 y7)))
 (fun K23 => br y6
 (bindS (F35 N x2 (i64.wrap (8 * y2))) (fun (y24 : Int) => K23 ((y5.2.1, (y5.2.2.1, (y5.2.2.2.1, (y5.2.2.2.2.1, (y5.2.2.2.2.2.1, (y24, y5.2.2.2.2.2.2.2)))))))))
 (K23 y5.2)))
 (fun K25 => br (decide (y1 = 4))
 (K25 true)
 (br (decide (y1 = 10))
 (K25 true)
 (K25 (decide (y1 = 12)))))))
 (fun K26 => br (decide (0 < y2))
 (bindS (F78 N y0.1 ((setD 0 x1.2.1 (0) 0).getD y0.1.2.2.1.toNat 0)) (fun (y27 : Int) => bindS (F79 N y0.1.1 y27 ((↑x4.length : Int))) (fun (y28 : Int) => jp (fun (y29 : Int) => br (decide (y28 = 3))
 (K26 ((6, (x1.1, (y0.1, (0, (0, (y27, (0, (0, false))))))))))
 (K26 ((y29, (x1.1, (y0.1, (0, (0, (y27, (0, (0, false)))))))))))
 (fun K30 => br (decide (y28 = 4))
 (K30 (5))
 (K30 y4)))))
 (K26 ((y4, (x1.1, (y0.1, (0, (0, (0, (0, (0, false))))))))))))
 (fun K31 => br (decide (y0.1.1 = 53))
 (K31 (2))
 (K31 y3)))
 (fun K32 => br (decide (y0.1.1 = 52))
 (K32 (1))
 (K32 y0.2)))))))
theorem e30 : g30' = R30 g28' g34' g35' g40' g78' g79' g80' g81' g82' g83' g84' := by kernel_rfl
def F30 : Nat → (Int × P2Sg) → Int → Bool → (List Int) → Option (P13Sg) := R30 F28 F34 F35 F40 F78 F79 F80 F81 F82 F83 F84
theorem F30_eq : g30' = F30 := by
  rw [e30, F28_eq, F34_eq, F35_eq, F40_eq, F78_eq, F79_eq, F80_eq, F81_eq, F82_eq, F83_eq, F84_eq, F30]
def g32' (N : Nat) (x1 : Int × P2Sg) (x2 : Int) (x3 : List Int) : Option (P14Sg) := f32 N (x1, x2, x3)
def R32 (F28 : Nat → Int → (List Int) → Option (P9Sg × Int)) (F30 : Nat → (Int × P2Sg) → Int → Bool → (List Int) → Option (P13Sg)) (F34 : Nat → Int → Option Int) (F40 : Nat → Int → Option Int) (F60 : Nat → (List Int) → Option Int) (F78 : Nat → P9Sg → Int → Option Int) (F79 : Nat → Int → Int → Int → Option Int) (N : Nat) (x1 : Int × P2Sg) (x2 : Int) (x3 : List Int) : Option (P14Sg) :=
  chk (decide (x3.length * 1 ≤ lim)) (jp (fun (y0 : Int) => fixN N (fun again1 (y2 : Int × Int × Int × P14Sg) => jp (fun (y3 : Bool) => br y3
 (jp (fun (y4 : Int × Int × P14Sg) => again1 ((y4.1, (y4.2.1, (i64.wrap (y2.2.2.1 + 1), (y4.2.2.1, (y4.2.2.2.1, y4.2.2.2.2)))))))
 (fun K5 => bindS (F28 N y2.2.2.2.1.1 x3) (fun (y6 : P9Sg × Int) => bindS (F34 N y6.1.1) (fun (y7 : Int) => chk (decide (0 ≤ y6.1.2.2.1) && decide (y6.1.2.2.1 < (↑32 : Int))) (bindS (F78 N y6.1 (y2.2.2.2.1.2.1.getD y6.1.2.2.1.toNat 0)) (fun (y8 : Int) => jp (fun (y9 : Int × Bool) => bindS (F30 N y2.2.2.2.1 y9.1 y9.2 x3) (fun (y10 : P13Sg) => chk (decide ((y2.2.2.2.2.2.length + [y10.2].length) * 120 ≤ lim)) (br (!decide (y10.2.2.2.1 = 0))
 (K5 ((y2.1, (y2.2.1, (y10.1, (y2.2.2.2.2.1, y2.2.2.2.2.2 ++ [y10.2]))))))
 (bindS (F40 N y6.1.1) (fun (y11 : Int) => jp (fun (y12 : Int × Int) => jp (fun (y13 : Int) => jp (fun (y14 : Bool) => br y14
 (fixN N (fun again15 (y16 : Int × List Int) => br (decide (y16.1 < y7))
 (chk (decide (0 ≤ u64.wrap (i64.wrap (8 * y16.1)))) (chk (decide (0 ≤ i64.wrap (i64.wrap y8 + y16.1)) && decide (i64.wrap (i64.wrap y8 + y16.1) < (↑y16.2.length : Int))) (again15 ((i64.wrap (y16.1 + 1), y16.2.set (i64.wrap (i64.wrap y8 + y16.1)).toNat (u8.wrap (y10.2.2.2.2.2.2.2.1.fdiv (2 ^ Min.min (u64.wrap (i64.wrap (8 * y16.1))).toNat u64.bits))))))))
 (K5 ((y13, (y12.2, (y10.1, (y16.2, y2.2.2.2.2.2 ++ [y10.2])))))))
 ((0, y2.2.2.2.2.1)))
 (K5 ((y13, (y12.2, (y10.1, (y2.2.2.2.2.1, y2.2.2.2.2.2 ++ [y10.2])))))))
 (fun K17 => br (decide (y11 = 5))
 (K17 true)
 (br (decide (y11 = 12))
 (K17 true)
 (br (decide (y11 = 11))
 (K17 (!y9.2))
 (K17 false)))))
 (fun K18 => br (decide (y11 = 11))
 (K18 (-1))
 (K18 y12.1)))
 (fun K19 => br (decide (y11 = 10))
 (K19 ((i64.wrap y8, y7)))
 (K19 ((y2.1, y2.2.1)))))))))
 (fun K20 => jp (fun (y21 : Bool) => br y21
 (chk (decide (0 ≤ i64.wrap y8) && decide (0 ≤ i64.wrap (i64.wrap y8 + y7)) && (i64.wrap y8).toNat.ble (i64.wrap (i64.wrap y8 + y7)).toNat && (i64.wrap (i64.wrap y8 + y7)).toNat.ble y2.2.2.2.2.1.length) (bindS (F60 N ((List.take ((i64.wrap (i64.wrap y8 + y7)).toNat - (i64.wrap y8).toNat) (List.drop (0 + (i64.wrap y8).toNat) y2.2.2.2.2.1)))) (fun (y22 : Int) => br (!decide (y2.1 = i64.wrap y8))
 (K20 ((y22, true)))
 (K20 ((y22, !decide (y2.2.1 = y7)))))))
 (K20 ((0, false))))
 (fun K23 => br (decide (0 < y7))
 (bindS (F79 N y6.1.1 y8 ((↑y2.2.2.2.2.1.length : Int))) (fun (y24 : Int) => K23 (decide (y24 = 0))))
 (K23 false)))))))))
 (some ((y2.2.2.2.1, (y2.2.2.2.2.1, y2.2.2.2.2.2)))))
 (fun K25 => br (decide (y2.2.2.1 < y0))
 (K25 (decide (y2.2.2.2.1.2.2 = 0)))
 (K25 false)))
 ((-1, (0, (0, ((x1.1, (setD 0 x1.2.1 (0) 0, x1.2.2)), (x3, [])))))))
 (fun K26 => br (decide (100000 < x2))
 (K26 (100000))
 (K26 x2)))
theorem e32 : g32' = R32 g28' g30' g34' g40' g60' g78' g79' := by kernel_rfl
def F32 : Nat → (Int × P2Sg) → Int → (List Int) → Option (P14Sg) := R32 F28 F30 F34 F40 F60 F78 F79
theorem F32_eq : g32' = F32 := by
  rw [e32, F28_eq, F30_eq, F34_eq, F40_eq, F60_eq, F78_eq, F79_eq, F32]
def g25' (N : Nat) (x1 : List Int) (x2 : List Int) : Option Bool := f25 N (x1, x2)
def F25 (N : Nat) (x1 : List Int) (x2 : List Int) : Option Bool :=
  br (!decide ((↑x1.length : Int) = (↑x2.length : Int)))
 (some false)
 (fixN N (fun again0 (y1 : Int) => br (decide (y1 < (↑x1.length : Int)))
 (chk (decide (0 ≤ y1) && decide (y1 < (↑x1.length : Int))) (chk (decide (0 ≤ y1) && decide (y1 < (↑x2.length : Int))) (br (!decide (x1.getD y1.toNat 0 = x2.getD y1.toNat 0))
 (some false)
 (again0 (i64.wrap (y1 + 1))))))
 (some true))
 (0))
theorem F25_eq : g25' = F25 := by kernel_rfl
def g33' (N : Nat) (x1 : P11Sg) (x2 : P11Sg) : Option Bool := f33 N (x1, x2)
def F33 (N : Nat) (x1 : P11Sg) (x2 : P11Sg) : Option Bool :=
  br (!decide ((↑x1.length : Int) = (↑x2.length : Int)))
 (some false)
 (fixN N (fun again0 (y1 : Int) => br (decide (y1 < (↑x1.length : Int)))
 (chk (decide (0 ≤ y1) && decide (y1 < (↑x1.length : Int))) (chk (decide (0 ≤ y1) && decide (y1 < (↑x2.length : Int))) (br (!((Ty.int u64).pair (((Ty.int i64).pair ((Ty.int i64).pair ((Ty.int i64).pair ((Ty.int i64).pair ((Ty.int i64).pair (Ty.bool.pair (Ty.bool.pair ((Ty.int i64).pair (Ty.int i64))))))))).pair ((Ty.int i64).pair ((Ty.int u64).pair ((Ty.int u64).pair ((Ty.int u64).pair ((Ty.int u64).pair Ty.bool))))))).eq (x1.getD y1.toNat (0, (0, 0, 0, 0, 0, false, false, 0, 0), 0, 0, 0, 0, 0, false)) (x2.getD y1.toNat (0, (0, 0, 0, 0, 0, false, false, 0, 0), 0, 0, 0, 0, 0, false)))
 (some false)
 (again0 (i64.wrap (y1 + 1))))))
 (some true))
 (0))
theorem F33_eq : g33' = F33 := by kernel_rfl
def g8' (N : Nat) (x1 : Int × P2Sg) (x2 : Int) (x3 : List Int) : Option Bool := f8 N (x1, x2, x3)
def R8 (F25 : Nat → (List Int) → (List Int) → Option Bool) (F26 : Nat → Option Bool) (F31 : Nat → (Int × P2Sg) → Int → (List Int) → Option (P14Sg)) (F32 : Nat → (Int × P2Sg) → Int → (List Int) → Option (P14Sg)) (F33 : Nat → P11Sg → P11Sg → Option Bool) (N : Nat) (x1 : Int × P2Sg) (x2 : Int) (x3 : List Int) : Option Bool :=
  bindS (F26 N ) (fun (y0 : Bool) => br (!y0)
 (some false)
 (br (decide (1024 < (↑x3.length : Int)))
 (bindS (F26 N ) (fun (y1 : Bool) => some y1))
 (jp (fun (y2 : Int) => bindS (F31 N x1 y2 x3) (fun (y3 : P14Sg) => bindS (F32 N x1 y2 x3) (fun (y4 : P14Sg) => jp (fun (y5 : Bool) => some y5)
 (fun K6 => bindS (F26 N ) (fun (y7 : Bool) => br y7
 (br (((Ty.int u64).pair ((Ty.arr 32 (Ty.int u64)).pair (Ty.int i64))).eq y3.1 y4.1)
 (bindS (F25 N y3.2.1 y4.2.1) (fun (y8 : Bool) => br y8
 (bindS (F33 N y3.2.2 y4.2.2) (fun (y9 : Bool) => K6 y9))
 (K6 false)))
 (K6 false))
 (K6 false))))))
 (fun K10 => br (decide (300 < x2))
 (K10 (300))
 (K10 x2)))))
theorem e8 : g8' = R8 g25' g26' g31' g32' g33' := by kernel_rfl
def F8 : Nat → (Int × P2Sg) → Int → (List Int) → Option Bool := R8 F25 F26 F31 F32 F33
theorem F8_eq : g8' = F8 := by
  rw [e8, F25_eq, F26_eq, F31_eq, F32_eq, F33_eq, F8]
def g7' (N : Nat) (x1 : Int × P2Sg) (x2 : Int) (x3 : Bool) (x4 : List Int) : Option Bool := f7 N (x1, x2, x3, x4)
def R7 (F26 : Nat → Option Bool) (F27 : Nat → Int → (List Int) → Option (P9Sg × Int)) (F28 : Nat → Int → (List Int) → Option (P9Sg × Int)) (F29 : Nat → (Int × P2Sg) → Int → Bool → (List Int) → Option (P13Sg)) (F30 : Nat → (Int × P2Sg) → Int → Bool → (List Int) → Option (P13Sg)) (N : Nat) (x1 : Int × P2Sg) (x2 : Int) (x3 : Bool) (x4 : List Int) : Option Bool :=
  bindS (F26 N ) (fun (y0 : Bool) => br (!y0)
 (some false)
 (br (decide (1024 < (↑x4.length : Int)))
 (bindS (F26 N ) (fun (y1 : Bool) => some y1))
 (bindS (F27 N x1.1 x4) (fun (y2 : P9Sg × Int) => bindS (F28 N x1.1 x4) (fun (y3 : P9Sg × Int) => bindS (F29 N x1 x2 x3 x4) (fun (y4 : P13Sg) => jp (fun (y5 : Bool) => br y5
 (some false)
 (br (!decide (x1.2.2 = 0))
 (jp (fun (y6 : Bool) => some y6)
 (fun K7 => bindS (F26 N ) (fun (y8 : Bool) => br y8
 (br (((Ty.int u64).pair ((Ty.arr 32 (Ty.int u64)).pair (Ty.int i64))).eq y4.1 (x1.1, setD 0 x1.2.1 (0) 0, x1.2.2))
 (K7 (((Ty.int u64).pair (((Ty.int i64).pair ((Ty.int i64).pair ((Ty.int i64).pair ((Ty.int i64).pair ((Ty.int i64).pair (Ty.bool.pair (Ty.bool.pair ((Ty.int i64).pair (Ty.int i64))))))))).pair ((Ty.int i64).pair ((Ty.int u64).pair ((Ty.int u64).pair ((Ty.int u64).pair ((Ty.int u64).pair Ty.bool))))))).eq y4.2 (0, (0, 0, 0, 0, 0, false, false, 0, 0), 0, 0, 0, 0, 0, false)))
 (K7 false))
 (K7 false))))
 (bindS (F30 N x1 x2 x3 x4) (fun (y9 : P13Sg) => jp (fun (y10 : Bool) => some y10)
 (fun K11 => bindS (F26 N ) (fun (y12 : Bool) => br y12
 (br (((Ty.int u64).pair ((Ty.arr 32 (Ty.int u64)).pair (Ty.int i64))).eq y4.1 y9.1)
 (K11 (((Ty.int u64).pair (((Ty.int i64).pair ((Ty.int i64).pair ((Ty.int i64).pair ((Ty.int i64).pair ((Ty.int i64).pair (Ty.bool.pair (Ty.bool.pair ((Ty.int i64).pair (Ty.int i64))))))))).pair ((Ty.int i64).pair ((Ty.int u64).pair ((Ty.int u64).pair ((Ty.int u64).pair ((Ty.int u64).pair Ty.bool))))))).eq y4.2 y9.2))
 (K11 false))
 (K11 false)))))))
 (fun K13 => br (!((Ty.int i64).pair ((Ty.int i64).pair ((Ty.int i64).pair ((Ty.int i64).pair ((Ty.int i64).pair (Ty.bool.pair (Ty.bool.pair ((Ty.int i64).pair (Ty.int i64))))))))).eq y2.1 y3.1)
 (K13 true)
 (K13 (!decide (y2.2 = y3.2))))))))))
theorem e7 : g7' = R7 g26' g27' g28' g29' g30' := by kernel_rfl
def F7 : Nat → (Int × P2Sg) → Int → Bool → (List Int) → Option Bool := R7 F26 F27 F28 F29 F30
theorem F7_eq : g7' = F7 := by
  rw [e7, F26_eq, F27_eq, F28_eq, F29_eq, F30_eq, F7]
end
end Go.Proofs.YtkcfkegkhopakaaGreatDoor
