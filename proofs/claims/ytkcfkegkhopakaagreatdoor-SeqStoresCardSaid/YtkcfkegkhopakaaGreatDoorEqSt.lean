/- What the contracts' functions come to, as printed. No condition. -/
import Derived.Test.YtkcfkegkhopakaaGreatDoorConSt
import Derived.KernelRfl
namespace Go.Proofs.YtkcfkegkhopakaaGreatDoor
open Go Go.Ev Go.Sh
set_option maxRecDepth 100000
set_option linter.unusedVariables false
open Go.IntKind (i8 i16 i32 i64 u8 u16 u32 u64)
abbrev P0St := Int × Int × Int
abbrev P1St := Bool × Int × Int
abbrev P2St := (List Int) × Int
abbrev P3St := Int × Int × Bool
abbrev P4St := (List Int) × List Int
abbrev P5St := Int × Int × P0St
abbrev P6St := Int × Int × P3St
abbrev P7St := Int × Bool × P1St
abbrev P8St := Int × Int × P7St
abbrev P9St := Int × Int × P8St
abbrev P10St := P9St × Int × P6St
abbrev P11St := List (Int × P10St)
abbrev P12St := (Int × P2St) × Int × P10St
noncomputable section
def g26' (N : Nat) : Option Bool := f26 N ()
def F26 (N : Nat) : Option Bool := some true
theorem F26_eq : g26' = F26 := rfl
def g24' (N : Nat) (x1 : List UInt8) (x2 : Int) : Option (Int × Int × List Int) := f24 N (x1, x2)
def F24 (N : Nat) (x1 : List UInt8) (x2 : Int) : Option (Int × Int × List Int) := imgS imgsSt N (x1, x2)
theorem F24_eq : g24' = F24 := rfl
def g85' (N : Nat) (x1 : List Int) : Option (List Int) := f85 N (x1)
def F85 (N : Nat) (x1 : List Int) : Option (List Int) :=
  br (decide ((↑x1.length : Int) = 0))
 (both (some []) (chk (decide ((([] : List Nat).length + x1.length) * 1 ≤ lim)) (some ([] ++ x1))))
 (chk (decide ((([] : List Nat).length + x1.length) * 1 ≤ lim)) (some ([] ++ x1)))
theorem F85_eq : g85' = F85 := by kernel_rfl
def g55' (N : Nat) (x1 : List Int) : Option Int := f55 N (x1)
def F55 (N : Nat) (x1 : List Int) : Option Int :=
  fixN N (fun again0 (y1 : Int × Int) => br (decide (0 ≤ y1.2))
 (chk (decide (0 ≤ y1.2) && decide (y1.2 < (↑x1.length : Int))) (again0 ((bits BinOp.or u64 (u64.wrap (y1.1 * 2 ^ Min.min (8) u64.bits)) (u64.wrap (x1.getD y1.2.toNat 0)), i64.wrap (y1.2 - 1)))))
 (some y1.1))
 ((0, i64.wrap ((if 8 < (↑x1.length : Int) then 8 else (↑x1.length : Int)) - 1)))
theorem F55_eq : g55' = F55 := by kernel_rfl
def g70' (N : Nat) (x1 : Int) (x2 : Int) : Option Int := f70 N (x1, x2)
def F70 (N : Nat) (x1 : Int) (x2 : Int) : Option Int :=
  br (decide (x2 < 1))
 (some (0))
 (br (decide (64 ≤ x2))
 (some x1)
 (chk (decide (0 ≤ x2)) (some (bits BinOp.and u64 x1 (u64.wrap (u64.wrap (1 * 2 ^ Min.min x2.toNat u64.bits) - 1))))))
theorem F70_eq : g70' = F70 := by kernel_rfl
def g168' (N : Nat) (x1 : Int) (x2 : Int) (x3 : Int) : Option Int := f168 N (x1, x2, x3)
def R168 (F70 : Nat → Int → Int → Option Int) (N : Nat) (x1 : Int) (x2 : Int) (x3 : Int) : Option Int :=
  jp (fun (y0 : Bool) => br y0
 (some (0))
 (chk (decide (0 ≤ x3)) (bindS (F70 N ((u64.wrap x1).fdiv (2 ^ Min.min x3.toNat u64.bits)) (i64.wrap (i64.wrap (x2 - x3) + 1))) (fun (y1 : Int) => some (u32.wrap y1)))))
 (fun K2 => br (decide (31 < x2))
 (K2 true)
 (br (decide (x2 < x3))
 (K2 true)
 (K2 (decide (x3 < 0)))))
theorem e168 : g168' = R168 g70' := by kernel_rfl
def F168 : Nat → Int → Int → Int → Option Int := R168 F70
theorem F168_eq : g168' = F168 := by
  rw [e168, F70_eq, F168]
def g167' (N : Nat) (x1 : Int) (x2 : Int) (x3 : Int) : Option Int := f167 N (x1, x2, x3)
def R167 (F168 : Nat → Int → Int → Int → Option Int) (N : Nat) (x1 : Int) (x2 : Int) (x3 : Int) : Option Int :=
  bindS (F168 N x3 x1 x2) (fun (y0 : Int) => some y0)
theorem e167 : g167' = R167 g168' := by kernel_rfl
def F167 : Nat → Int → Int → Int → Option Int := R167 F168
theorem F167_eq : g167' = F167 := by
  rw [e167, F168_eq, F167]
def g105' (N : Nat) (x1 : Int) : Option (Int × P5St) := f105 N (x1)
def R105 (F167 : Nat → Int → Int → Int → Option Int) (N : Nat) (x1 : Int) : Option (Int × P5St) :=
  bindS (F167 N 11 7 x1) (fun (y0 : Int) => bindS (F167 N 19 15 x1) (fun (y1 : Int) => bindS (F167 N 24 20 x1) (fun (y2 : Int) => bindS (F167 N 14 12 x1) (fun (y3 : Int) => bindS (F167 N 31 25 x1) (fun (y4 : Int) => some ((x1, (i64.wrap y0, (i64.wrap y1, (i64.wrap y2, (y3, y4)))))))))))
theorem e105 : g105' = R105 g167' := by kernel_rfl
def F105 : Nat → Int → Option (Int × P5St) := R105 F167
theorem F105_eq : g105' = F105 := by
  rw [e105, F167_eq, F105]
def g216' (N : Nat)  : Option (Int × Int × Int × Int × Int × Int × Int × Int × Int × Int × Int × Int × (List P0St) × (List P0St) × (List P0St) × (List P0St) × List P0St) := f216 N ()
def F216 (N : Nat)  : Option (Int × Int × Int × Int × Int × Int × Int × Int × Int × Int × Int × Int × (List P0St) × (List P0St) × (List P0St) × (List P0St) × List P0St) :=
  some ((0, (0, (12, (0, (12, (0, (13, (1, (32, (12, (21, (1, ([(31, 20, 0)], ([(31, 25, 5), (11, 7, 0)], ([(31, 31, 12), (7, 7, 11), (30, 25, 5), (11, 8, 1)], ([(31, 12, 12)], [(31, 31, 20), (19, 12, 12), (20, 20, 11), (30, 21, 1)])))))))))))))))))
theorem F216_eq : g216' = F216 := by kernel_rfl
def g187' (N : Nat) (x1 : Int) : Option (Int × Int × Bool × List P0St) := f187 N (x1)
def R187 (F216 : Nat → Option (Int × Int × Int × Int × Int × Int × Int × Int × Int × Int × Int × Int × (List P0St) × (List P0St) × (List P0St) × (List P0St) × List P0St)) (N : Nat) (x1 : Int) : Option (Int × Int × Bool × List P0St) :=
  jp (fun (y0 : Bool) => br y0
 (some ((0, (0, (false, [])))))
 (jp (fun (y1 : Bool × Int × Int × List P0St) => some ((y1.2.1, (y1.2.2.1, (y1.1, y1.2.2.2)))))
 (fun K2 => bindS (F216 N ) (fun (y3 : Int × Int × Int × Int × Int × Int × Int × Int × Int × Int × Int × Int × (List P0St) × (List P0St) × (List P0St) × (List P0St) × List P0St) => chk (decide (0 ≤ x1) && decide (x1 < (↑6 : Int))) (br (x1.toNat.beq 0)
 (K2 ((true, (y3.1, (y3.2.1, [])))))
 (br (x1.toNat.beq (0 + 1))
 (K2 ((true, (y3.2.2.1, (y3.2.2.2.1, y3.2.2.2.2.2.2.2.2.2.2.2.2.1)))))
 (br (x1.toNat.beq (0 + 1 + 1))
 (K2 ((true, (y3.2.2.2.2.1, (y3.2.2.2.2.2.1, y3.2.2.2.2.2.2.2.2.2.2.2.2.2.1)))))
 (br (x1.toNat.beq (0 + 1 + 1 + 1))
 (K2 ((true, (y3.2.2.2.2.2.2.1, (y3.2.2.2.2.2.2.2.1, y3.2.2.2.2.2.2.2.2.2.2.2.2.2.2.1)))))
 (br (x1.toNat.beq (0 + 1 + 1 + 1 + 1))
 (K2 ((true, (y3.2.2.2.2.2.2.2.2.1, (y3.2.2.2.2.2.2.2.2.2.1, y3.2.2.2.2.2.2.2.2.2.2.2.2.2.2.2.1)))))
 (K2 ((true, (y3.2.2.2.2.2.2.2.2.2.2.1, (y3.2.2.2.2.2.2.2.2.2.2.2.1, y3.2.2.2.2.2.2.2.2.2.2.2.2.2.2.2.2))))))))))))))
 (fun K4 => br (decide (x1 < 1))
 (K4 true)
 (K4 (decide (5 < x1))))
theorem e187 : g187' = R187 g216' := by kernel_rfl
def F187 : Nat → Int → Option (Int × Int × Bool × List P0St) := R187 F216
theorem F187_eq : g187' = F187 := by
  rw [e187, F216_eq, F187]
def g127' (N : Nat) (x1 : Int) (x2 : Int) : Option Int := f127 N (x1, x2)
def R127 (F70 : Nat → Int → Int → Option Int) (N : Nat) (x1 : Int) (x2 : Int) : Option Int :=
  jp (fun (y0 : Bool) => br y0
 (bindS (F70 N x1 x2) (fun (y1 : Int) => some y1))
 (chk (decide (0 ≤ i64.wrap (64 - x2))) (chk (decide (0 ≤ i64.wrap (64 - x2))) (some (u64.wrap ((i64.wrap (u64.wrap (x1 * 2 ^ Min.min (i64.wrap (64 - x2)).toNat u64.bits))).fdiv (2 ^ Min.min (i64.wrap (64 - x2)).toNat i64.bits)))))))
 (fun K2 => br (decide (x2 < 1))
 (K2 true)
 (K2 (decide (64 ≤ x2))))
theorem e127 : g127' = R127 g70' := by kernel_rfl
def F127 : Nat → Int → Int → Option Int := R127 F70
theorem F127_eq : g127' = F127 := by
  rw [e127, F70_eq, F127]
def g159' (N : Nat) (x1 : Int) (x2 : Int) : Option Int := f159 N (x1, x2)
def R159 (F127 : Nat → Int → Int → Option Int) (F168 : Nat → Int → Int → Int → Option Int) (F187 : Nat → Int → Option (Int × Int × Bool × List P0St)) (N : Nat) (x1 : Int) (x2 : Int) : Option Int :=
  bindS (F187 N x1) (fun (y0 : Int × Int × Bool × List P0St) => br (!y0.2.2.1)
 (some (0))
 (fixN N (fun again1 (y2 : Int × Int) => br (decide (y2.2 < (↑y0.2.2.2.length : Int)))
 (chk (decide (0 ≤ y2.2) && decide (y2.2 < (↑y0.2.2.2.length : Int))) (bindS (F168 N x2 ((y0.2.2.2.getD y2.2.toNat (0, 0, 0)).1) ((y0.2.2.2.getD y2.2.toNat (0, 0, 0)).2.1)) (fun (y3 : Int) => chk (decide (0 ≤ (y0.2.2.2.getD y2.2.toNat (0, 0, 0)).2.2)) (again1 ((bits BinOp.or u64 y2.1 (u64.wrap (u64.wrap y3 * 2 ^ Min.min (Int.toNat (y0.2.2.2.getD y2.2.toNat (0, 0, 0)).2.2) u64.bits)), i64.wrap (y2.2 + 1)))))))
 (bindS (F127 N y2.1 y0.1) (fun (y4 : Int) => some (i64.wrap y4))))
 ((0, 0))))
theorem e159 : g159' = R159 g127' g168' g187' := by kernel_rfl
def F159 : Nat → Int → Int → Option Int := R159 F127 F168 F187
theorem F159_eq : g159' = F159 := by
  rw [e159, F127_eq, F168_eq, F187_eq, F159]
def g160' (N : Nat) (x1 : Int × P5St) : Option (Int × Int) := f160 N (x1)
def R160 (F159 : Nat → Int → Int → Option Int) (F168 : Nat → Int → Int → Int → Option Int) (N : Nat) (x1 : Int × P5St) : Option (Int × Int) :=
  bindS (F168 N x1.1 25 20) (fun (y0 : Int) => bindS (F168 N x1.1 31 26) (fun (y1 : Int) => jp (fun (y2 : Bool) => br y2
 (some ((28, i64.wrap y0)))
 (jp (fun (y3 : Bool) => br y3
 (some ((29, i64.wrap y0)))
 (jp (fun (y4 : Bool) => br y4
 (some ((30, i64.wrap y0)))
 (chk (decide (0 ≤ x1.2.2.2.2.1) && decide (x1.2.2.2.2.1 < (↑8 : Int))) (bindS (F159 N 1 x1.1) (fun (y5 : Int) => some (([22, 0, 23, 24, 25, 0, 26, 27].getD x1.2.2.2.2.1.toNat 0, y5))))))
 (fun K6 => br (decide (x1.2.2.2.2.1 = 5))
 (K6 (decide (y1 = 16)))
 (K6 false))))
 (fun K7 => br (decide (x1.2.2.2.2.1 = 5))
 (K7 (decide (y1 = 0)))
 (K7 false))))
 (fun K8 => br (decide (x1.2.2.2.2.1 = 1))
 (K8 (decide (y1 = 0)))
 (K8 false))))
theorem e160 : g160' = R160 g159' g168' := by kernel_rfl
def F160 : Nat → (Int × P5St) → Option (Int × Int) := R160 F159 F168
theorem F160_eq : g160' = F160 := by
  rw [e160, F159_eq, F168_eq, F160]
def g161' (N : Nat) (x1 : Int × P5St) : Option (Int × Int) := f161 N (x1)
def R161 (F159 : Nat → Int → Int → Option Int) (N : Nat) (x1 : Int × P5St) : Option (Int × Int) :=
  br (decide (x1.2.2.2.2.1 = 0))
 (bindS (F159 N 1 x1.1) (fun (y0 : Int) => some ((31, y0))))
 (jp (fun (y1 : Bool) => br y1
 (some ((32, x1.2.2.2.1)))
 (jp (fun (y2 : Bool) => br y2
 (some ((33, x1.2.2.2.1)))
 (jp (fun (y3 : Bool) => br y3
 (some ((34, x1.2.2.2.1)))
 (some ((0, 0))))
 (fun K4 => br (decide (x1.2.2.2.2.1 = 5))
 (K4 (decide (x1.2.2.2.2.2 = 32)))
 (K4 false))))
 (fun K5 => br (decide (x1.2.2.2.2.1 = 5))
 (K5 (decide (x1.2.2.2.2.2 = 0)))
 (K5 false))))
 (fun K6 => br (decide (x1.2.2.2.2.1 = 1))
 (K6 (decide (x1.2.2.2.2.2 = 0)))
 (K6 false)))
theorem e161 : g161' = R161 g159' := by kernel_rfl
def F161 : Nat → (Int × P5St) → Option (Int × Int) := R161 F159
theorem F161_eq : g161' = F161 := by
  rw [e161, F159_eq, F161]
def g162' (N : Nat)  : Option (P4St) := f162 N ()
def F162 (N : Nat)  : Option (P4St) :=
  some (([35, 37, 38, 39, 40, 41, 43, 44], [36, 0, 0, 0, 0, 42, 0, 0]))
theorem F162_eq : g162' = F162 := by kernel_rfl
def g163' (N : Nat) (x1 : Int × P5St) (x2 : List Int) (x3 : List Int) : Option Int := f163 N (x1, x2, x3)
def F163 (N : Nat) (x1 : Int × P5St) (x2 : List Int) (x3 : List Int) : Option Int :=
  br (decide (x1.2.2.2.2.2 = 0))
 (chk (decide (0 ≤ x1.2.2.2.2.1) && decide (x1.2.2.2.2.1 < (↑8 : Int))) (some (x2.getD x1.2.2.2.2.1.toNat 0)))
 (br (decide (x1.2.2.2.2.2 = 32))
 (chk (decide (0 ≤ x1.2.2.2.2.1) && decide (x1.2.2.2.2.1 < (↑8 : Int))) (some (x3.getD x1.2.2.2.2.1.toNat 0)))
 (some (0)))
theorem F163_eq : g163' = F163 := by kernel_rfl
def g164' (N : Nat)  : Option (P4St) := f164 N ()
def F164 (N : Nat)  : Option (P4St) :=
  some (([45, 47, 0, 0, 0, 48, 0, 0], [46, 0, 0, 0, 0, 49, 0, 0]))
theorem F164_eq : g164' = F164 := by kernel_rfl
def g165' (N : Nat) (x1 : Int) : Option (P9St) := f165 N (x1)
def R165 (F168 : Nat → Int → Int → Int → Option Int) (N : Nat) (x1 : Int) : Option (P9St) :=
  bindS (F168 N x1 31 20) (fun (y0 : Int) => br (decide (y0 = 2099))
 (some ((51, (0, (0, (0, (0, (false, (false, (3, 3))))))))))
 (bindS (F168 N x1 27 24) (fun (y1 : Int) => bindS (F168 N x1 23 20) (fun (y2 : Int) => some ((50, (0, (0, (0, (0, (false, (false, (i64.wrap y1, i64.wrap y2)))))))))))))
theorem e165 : g165' = R165 g168' := by kernel_rfl
def F165 : Nat → Int → Option (P9St) := R165 F168
theorem F165_eq : g165' = F165 := by
  rw [e165, F168_eq, F165]
def g166' (N : Nat) (x1 : Int × P5St) : Option Int := f166 N (x1)
def R166 (F168 : Nat → Int → Int → Int → Option Int) (N : Nat) (x1 : Int × P5St) : Option Int :=
  bindS (F168 N x1.1 31 27) (fun (y0 : Int) => jp (fun (y1 : Int) => jp (fun (y2 : Bool) => br y2
 (some y1)
 (br (!decide (x1.2.2.2.2.1 = 3))
 (some (0))
 (br (decide (y1 ≤ 56))
 (some (i64.wrap (y1 + 1)))
 (some (i64.wrap (i64.wrap (y1 + 67) - 58))))))
 (fun K3 => br (decide (y1 = 0))
 (K3 true)
 (K3 (decide (x1.2.2.2.2.1 = 2)))))
 (fun K4 => br (decide (y0 = 2))
 (br (decide (x1.2.2.2.1 = 0))
 (K4 (54))
 (K4 (0)))
 (br (decide (y0 = 3))
 (K4 (56))
 (br (decide (y0 = 1))
 (K4 (58))
 (br (decide (y0 = 0))
 (K4 (59))
 (br (decide (y0 = 4))
 (K4 (60))
 (br (decide (y0 = 12))
 (K4 (61))
 (br (decide (y0 = 8))
 (K4 (62))
 (br (decide (y0 = 16))
 (K4 (63))
 (br (decide (y0 = 20))
 (K4 (64))
 (br (decide (y0 = 24))
 (K4 (65))
 (br (decide (y0 = 28))
 (K4 (66))
 (K4 (0))))))))))))))
theorem e166 : g166' = R166 g168' := by kernel_rfl
def F166 : Nat → (Int × P5St) → Option Int := R166 F168
theorem F166_eq : g166' = F166 := by
  rw [e166, F168_eq, F166]
def g104' (N : Nat) (x1 : Int × P5St) : Option (P9St) := f104 N (x1)
def R104 (F159 : Nat → Int → Int → Option Int) (F160 : Nat → (Int × P5St) → Option (Int × Int)) (F161 : Nat → (Int × P5St) → Option (Int × Int)) (F162 : Nat → Option (P4St)) (F163 : Nat → (Int × P5St) → (List Int) → (List Int) → Option Int) (F164 : Nat → Option (P4St)) (F165 : Nat → Int → Option (P9St)) (F166 : Nat → (Int × P5St) → Option Int) (N : Nat) (x1 : Int × P5St) : Option (P9St) :=
  jp (fun (y0 : P9St) => some y0)
 (fun K1 => br (decide (bits BinOp.and u32 x1.1 127 = 55))
 (bindS (F159 N 4 x1.1) (fun (y2 : Int) => K1 ((1, (x1.2.1, (x1.2.2.1, (x1.2.2.2.1, (y2, (false, (false, (0, 0)))))))))))
 (br (decide (bits BinOp.and u32 x1.1 127 = 23))
 (bindS (F159 N 4 x1.1) (fun (y3 : Int) => K1 ((2, (x1.2.1, (x1.2.2.1, (x1.2.2.2.1, (y3, (false, (false, (0, 0)))))))))))
 (br (decide (bits BinOp.and u32 x1.1 127 = 111))
 (bindS (F159 N 5 x1.1) (fun (y4 : Int) => K1 ((3, (x1.2.1, (x1.2.2.1, (x1.2.2.2.1, (y4, (false, (false, (0, 0)))))))))))
 (br (decide (bits BinOp.and u32 x1.1 127 = 103))
 (br (decide (x1.2.2.2.2.1 = 0))
 (bindS (F159 N 1 x1.1) (fun (y5 : Int) => K1 ((4, (x1.2.1, (x1.2.2.1, (x1.2.2.2.1, (y5, (false, (false, (0, 0)))))))))))
 (K1 ((0, (x1.2.1, (x1.2.2.1, (x1.2.2.2.1, (0, (false, (false, (0, 0)))))))))))
 (br (decide (bits BinOp.and u32 x1.1 127 = 99))
 (chk (decide (0 ≤ x1.2.2.2.2.1) && decide (x1.2.2.2.2.1 < (↑8 : Int))) (bindS (F159 N 3 x1.1) (fun (y6 : Int) => K1 (([5, 6, 0, 0, 7, 8, 9, 10].getD x1.2.2.2.2.1.toNat 0, (x1.2.1, (x1.2.2.1, (x1.2.2.2.1, (y6, (false, (false, (0, 0))))))))))))
 (br (decide (bits BinOp.and u32 x1.1 127 = 3))
 (br (decide (x1.2.2.2.2.1 < 7))
 (bindS (F159 N 1 x1.1) (fun (y7 : Int) => K1 ((i64.wrap (11 + i64.wrap x1.2.2.2.2.1), (x1.2.1, (x1.2.2.1, (x1.2.2.2.1, (y7, (false, (false, (0, 0)))))))))))
 (K1 ((0, (x1.2.1, (x1.2.2.1, (x1.2.2.2.1, (0, (false, (false, (0, 0)))))))))))
 (br (decide (bits BinOp.and u32 x1.1 127 = 35))
 (br (decide (x1.2.2.2.2.1 < 4))
 (bindS (F159 N 2 x1.1) (fun (y8 : Int) => K1 ((i64.wrap (18 + i64.wrap x1.2.2.2.2.1), (x1.2.1, (x1.2.2.1, (x1.2.2.2.1, (y8, (false, (false, (0, 0)))))))))))
 (K1 ((0, (x1.2.1, (x1.2.2.1, (x1.2.2.2.1, (0, (false, (false, (0, 0)))))))))))
 (br (decide (bits BinOp.and u32 x1.1 127 = 19))
 (bindS (F160 N x1) (fun (y9 : Int × Int) => K1 ((y9.1, (x1.2.1, (x1.2.2.1, (x1.2.2.2.1, (y9.2, (false, (false, (0, 0)))))))))))
 (br (decide (bits BinOp.and u32 x1.1 127 = 27))
 (bindS (F161 N x1) (fun (y10 : Int × Int) => K1 ((y10.1, (x1.2.1, (x1.2.2.1, (x1.2.2.2.1, (y10.2, (false, (false, (0, 0)))))))))))
 (br (decide (bits BinOp.and u32 x1.1 127 = 51))
 (bindS (F162 N ) (fun (y11 : P4St) => bindS (F163 N x1 y11.1 y11.2) (fun (y12 : Int) => K1 ((y12, (x1.2.1, (x1.2.2.1, (x1.2.2.2.1, (0, (false, (false, (0, 0))))))))))))
 (br (decide (bits BinOp.and u32 x1.1 127 = 59))
 (bindS (F164 N ) (fun (y13 : P4St) => bindS (F163 N x1 y13.1 y13.2) (fun (y14 : Int) => K1 ((y14, (x1.2.1, (x1.2.2.1, (x1.2.2.2.1, (0, (false, (false, (0, 0))))))))))))
 (br (decide (bits BinOp.and u32 x1.1 127 = 15))
 (br (decide (x1.2.2.2.2.1 = 0))
 (bindS (F165 N x1.1) (fun (y15 : P9St) => some y15))
 (K1 ((0, (x1.2.1, (x1.2.2.1, (x1.2.2.2.1, (0, (false, (false, (0, 0)))))))))))
 (br (decide (bits BinOp.and u32 x1.1 127 = 115))
 (jp (fun (y16 : P9St) => K1 y16)
 (fun K17 => br (decide (x1.1 = 115))
 (K17 ((52, (x1.2.1, (x1.2.2.1, (x1.2.2.2.1, (0, (false, (false, (0, 0))))))))))
 (br (decide (x1.1 = 1048691))
 (K17 ((53, (x1.2.1, (x1.2.2.1, (x1.2.2.2.1, (0, (false, (false, (0, 0))))))))))
 (K17 ((0, (x1.2.1, (x1.2.2.1, (x1.2.2.2.1, (0, (false, (false, (0, 0)))))))))))))
 (br (decide (bits BinOp.and u32 x1.1 127 = 47))
 (bindS (F166 N x1) (fun (y18 : Int) => K1 ((y18, (x1.2.1, (x1.2.2.1, (x1.2.2.2.1, (0, (decide (bits BinOp.and u32 (x1.1.fdiv (2 ^ Min.min (26) u32.bits)) 1 = 1), (decide (bits BinOp.and u32 (x1.1.fdiv (2 ^ Min.min (25) u32.bits)) 1 = 1), (0, 0)))))))))))
 (K1 ((0, (x1.2.1, (x1.2.2.1, (x1.2.2.2.1, (0, (false, (false, (0, 0))))))))))))))))))))))))
theorem e104 : g104' = R104 g159' g160' g161' g162' g163' g164' g165' g166' := by kernel_rfl
def F104 : Nat → (Int × P5St) → Option (P9St) := R104 F159 F160 F161 F162 F163 F164 F165 F166
theorem F104_eq : g104' = F104 := by
  rw [e104, F159_eq, F160_eq, F161_eq, F162_eq, F163_eq, F164_eq, F165_eq, F166_eq, F104]
def g72' (N : Nat) (x1 : Int) : Option Int := f72 N (x1)
def F72 (N : Nat) (x1 : Int) : Option Int :=
  jp (fun (y0 : Bool) => br y0
 (some (0))
 (br (decide (x1 ≤ 2))
 (some (1))
 (br (decide (x1 ≤ 4))
 (some (2))
 (br (decide (x1 ≤ 10))
 (some (3))
 (br (decide (x1 ≤ 17))
 (some (4))
 (br (decide (x1 ≤ 21))
 (some (5))
 (br (decide (x1 ≤ 34))
 (some (6))
 (br (decide (x1 ≤ 49))
 (some (7))
 (br (decide (x1 ≤ 51))
 (some (8))
 (br (decide (x1 ≤ 53))
 (some (9))
 (br (decide (x1 ≤ 55))
 (some (10))
 (br (decide (x1 ≤ 57))
 (some (11))
 (some (12))))))))))))))
 (fun K1 => br (decide (x1 < 1))
 (K1 true)
 (K1 (decide (75 < x1))))
theorem F72_eq : g72' = F72 := by kernel_rfl
def g129' (N : Nat) (x1 : Int) : Option Int := f129 N (x1)
def F129 (N : Nat) (x1 : Int) : Option Int :=
  jp (fun (y0 : Bool) => br y0
 (some (0))
 (some x1))
 (fun K1 => br (decide (x1 < 0))
 (K1 true)
 (K1 (decide (31 < x1))))
theorem F129_eq : g129' = F129 := by kernel_rfl
def g76' (N : Nat) (x1 : P9St) : Option Int := f76 N (x1)
def R76 (F129 : Nat → Int → Option Int) (F72 : Nat → Int → Option Int) (N : Nat) (x1 : P9St) : Option Int :=
  bindS (F72 N x1.1) (fun (y0 : Int) => jp (fun (y1 : Bool) => br y1
 (some (0))
 (bindS (F129 N x1.2.1) (fun (y2 : Int) => some y2)))
 (fun K3 => br (decide (y0 = 0))
 (K3 true)
 (br (decide (y0 = 3))
 (K3 true)
 (br (decide (y0 = 5))
 (K3 true)
 (br (decide (y0 = 8))
 (K3 true)
 (K3 (decide (y0 = 9))))))))
theorem e76 : g76' = R76 g129' g72' := by kernel_rfl
def F76 : Nat → P9St → Option Int := R76 F129 F72
theorem F76_eq : g76' = F76 := by
  rw [e76, F129_eq, F72_eq, F76]
def g146' (N : Nat) (x1 : P9St) : Option (List Int) := f146 N (x1)
def R146 (F129 : Nat → Int → Option Int) (F72 : Nat → Int → Option Int) (N : Nat) (x1 : P9St) : Option (List Int) :=
  bindS (F72 N x1.1) (fun (y0 : Int) => jp (fun (y1 : List Int) => fixN N (fun again2 (y3 : Int × List Int) => br (decide (y3.1 < (↑y1.length : Int)))
 (jp (fun (y4 : List Int) => again2 ((i64.wrap (y3.1 + 1), y4)))
 (fun K5 => chk (decide (0 ≤ y3.1) && decide (y3.1 < (↑y1.length : Int))) (br (!decide (y1.getD y3.1.toNat 0 = 0))
 (chk (decide ((y3.2.length + [y1.getD y3.1.toNat 0].length) * 8 ≤ lim)) (K5 (y3.2 ++ [y1.getD y3.1.toNat 0])))
 (K5 y3.2))))
 (some y3.2))
 ((0, [])))
 (fun K6 => jp (fun (y7 : Bool) => br y7
 (bindS (F129 N x1.2.2.1) (fun (y8 : Int) => bindS (F129 N x1.2.2.2.1) (fun (y9 : Int) => K6 ([y8, y9]))))
 (jp (fun (y10 : Bool) => br y10
 (bindS (F129 N x1.2.2.1) (fun (y11 : Int) => K6 [y11]))
 (br (decide (y0 = 2))
 (br (decide (x1.1 = 4))
 (bindS (F129 N x1.2.2.1) (fun (y12 : Int) => K6 [y12]))
 (K6 []))
 (K6 [])))
 (fun K13 => br (decide (y0 = 4))
 (K13 true)
 (br (decide (y0 = 6))
 (K13 true)
 (K13 (decide (y0 = 10)))))))
 (fun K14 => br (decide (y0 = 3))
 (K14 true)
 (br (decide (y0 = 5))
 (K14 true)
 (br (decide (y0 = 7))
 (K14 true)
 (br (decide (y0 = 11))
 (K14 true)
 (K14 (decide (y0 = 12)))))))))
theorem e146 : g146' = R146 g129' g72' := by kernel_rfl
def F146 : Nat → P9St → Option (List Int) := R146 F129 F72
theorem F146_eq : g146' = F146 := by
  rw [e146, F129_eq, F72_eq, F146]
def g92' (N : Nat) (x1 : P9St) : Option (P9St) := f92 N (x1)
def R92 (F146 : Nat → P9St → Option (List Int)) (F76 : Nat → P9St → Option Int) (N : Nat) (x1 : P9St) : Option (P9St) :=
  jp (fun (y0 : P9St) => bindS (F146 N ((x1.1, 1, 2, 3, 0, false, false, 0, 0))) (fun (y1 : List Int) => fixN N (fun again2 (y3 : Int × List Bool) => br (decide (y3.1 < (↑y1.length : Int)))
 (chk (decide (0 ≤ y3.1) && decide (y3.1 < (↑y1.length : Int))) (chk (decide (0 ≤ y1.getD y3.1.toNat 0) && decide (y1.getD y3.1.toNat 0 < (↑4 : Int))) (again2 ((i64.wrap (y3.1 + 1), setD false y3.2 (Int.toNat (y1.getD y3.1.toNat 0)) true)))))
 (jp (fun (y4 : P9St) => jp (fun (y5 : P9St) => some y5)
 (fun K6 => br (!y3.2.getD (3) false)
 (K6 ((y4.1, (y4.2.1, (y4.2.2.1, (0, y4.2.2.2.2))))))
 (K6 y4)))
 (fun K7 => br (!y3.2.getD (2) false)
 (K7 ((y0.1, (y0.2.1, (0, y0.2.2.2)))))
 (K7 y0))))
 ((0, [false, false, false, false]))))
 (fun K8 => bindS (F76 N ((x1.1, 1, 2, 3, 0, false, false, 0, 0))) (fun (y9 : Int) => br (decide (y9 = 0))
 (K8 ((x1.1, (0, x1.2.2))))
 (K8 x1)))
theorem e92 : g92' = R92 g146' g76' := by kernel_rfl
def F92 : Nat → P9St → Option (P9St) := R92 F146 F76
theorem F92_eq : g92' = F92 := by
  rw [e92, F146_eq, F76_eq, F92]
def g56' (N : Nat) (x1 : Int) : Option (P9St × Int) := f56 N (x1)
def R56 (F104 : Nat → (Int × P5St) → Option (P9St)) (F105 : Nat → Int → Option (Int × P5St)) (F92 : Nat → P9St → Option (P9St)) (N : Nat) (x1 : Int) : Option (P9St × Int) :=
  bindS (F105 N x1) (fun (y0 : Int × P5St) => bindS (F104 N y0) (fun (y1 : P9St) => br (decide (y1.1 = 0))
 (some (((0, (0, (0, (0, (0, (false, (false, (0, 0)))))))), 2)))
 (bindS (F92 N y1) (fun (y2 : P9St) => some ((y2, 0))))))
theorem e56 : g56' = R56 g104' g105' g92' := by kernel_rfl
def F56 : Nat → Int → Option (P9St × Int) := R56 F104 F105 F92
theorem F56_eq : g56' = F56 := by
  rw [e56, F104_eq, F105_eq, F92_eq, F56]
def g27' (N : Nat) (x1 : Int) (x2 : List Int) : Option (P9St × Int) := f27 N (x1, x2)
def R27 (F55 : Nat → (List Int) → Option Int) (F56 : Nat → Int → Option (P9St × Int)) (N : Nat) (x1 : Int) (x2 : List Int) : Option (P9St × Int) :=
  jp (fun (y0 : Bool) => br y0
 (some (((0, (0, (0, (0, (0, (false, (false, (0, 0)))))))), 4)))
 (chk (decide (0 ≤ x1) && decide (0 ≤ u64.wrap (x1 + 4)) && x1.toNat.ble (u64.wrap (x1 + 4)).toNat && (u64.wrap (x1 + 4)).toNat.ble x2.length) (bindS (F55 N ((List.take ((u64.wrap (x1 + 4)).toNat - x1.toNat) (List.drop (0 + x1.toNat) x2)))) (fun (y1 : Int) => bindS (F56 N ((u32.wrap y1))) (fun (y2 : P9St × Int) => br (!decide (y2.2 = 0))
 (some (((0, (0, (0, (0, (0, (false, (false, (0, 0)))))))), 3)))
 (some ((y2.1, 0))))))))
 (fun K3 => br (!decide (x1.tmod 4 = 0))
 (K3 true)
 (br (decide ((↑x2.length : Int) < 4))
 (K3 true)
 (K3 (decide (u64.wrap (i64.wrap ((↑x2.length : Int) - 4)) < x1)))))
theorem e27 : g27' = R27 g55' g56' := by kernel_rfl
def F27 : Nat → Int → (List Int) → Option (P9St × Int) := R27 F55 F56
theorem F27_eq : g27' = F27 := by
  rw [e27, F55_eq, F56_eq, F27]
def g71' (N : Nat) (x1 : Int) : Option Int := f71 N (x1)
def R71 (F72 : Nat → Int → Option Int) (N : Nat) (x1 : Int) : Option Int :=
  jp (fun (y0 : Bool) => br y0
 (some (1))
 (jp (fun (y1 : Bool) => br y1
 (some (2))
 (jp (fun (y2 : Bool) => br y2
 (some (4))
 (jp (fun (y3 : Bool) => br y3
 (some (8))
 (bindS (F72 N x1) (fun (y4 : Int) => br (!decide (y4 = 12))
 (some (0))
 (br (decide (x1 ≤ 66))
 (some (4))
 (some (8))))))
 (fun K5 => br (decide (x1 = 14))
 (K5 true)
 (br (decide (x1 = 21))
 (K5 true)
 (br (decide (x1 = 55))
 (K5 true)
 (K5 (decide (x1 = 57))))))))
 (fun K6 => br (decide (x1 = 13))
 (K6 true)
 (br (decide (x1 = 17))
 (K6 true)
 (br (decide (x1 = 20))
 (K6 true)
 (br (decide (x1 = 54))
 (K6 true)
 (K6 (decide (x1 = 56)))))))))
 (fun K7 => br (decide (x1 = 12))
 (K7 true)
 (br (decide (x1 = 16))
 (K7 true)
 (K7 (decide (x1 = 19)))))))
 (fun K8 => br (decide (x1 = 11))
 (K8 true)
 (br (decide (x1 = 15))
 (K8 true)
 (K8 (decide (x1 = 18)))))
theorem e71 : g71' = R71 g72' := by kernel_rfl
def F71 : Nat → Int → Option Int := R71 F72
theorem F71_eq : g71' = F71 := by
  rw [e71, F72_eq, F71]
def g124' (N : Nat) (x1 : P9St) (x2 : Int) : Option Int := f124 N (x1, x2)
def R124 (F72 : Nat → Int → Option Int) (N : Nat) (x1 : P9St) (x2 : Int) : Option Int :=
  bindS (F72 N x1.1) (fun (y0 : Int) => jp (fun (y1 : Bool) => br y1
 (some (u64.wrap (x2 + u64.wrap x1.2.2.2.2.1)))
 (jp (fun (y2 : Bool) => br y2
 (some x2)
 (some (0)))
 (fun K3 => br (decide (y0 = 10))
 (K3 true)
 (br (decide (y0 = 11))
 (K3 true)
 (K3 (decide (y0 = 12)))))))
 (fun K4 => br (decide (y0 = 4))
 (K4 true)
 (K4 (decide (y0 = 5)))))
theorem e124 : g124' = R124 g72' := by kernel_rfl
def F124 : Nat → P9St → Int → Option Int := R124 F72
theorem F124_eq : g124' = F124 := by
  rw [e124, F72_eq, F124]
def g125' (N : Nat) (x1 : Int) (x2 : Int) (x3 : Int) : Option Int := f125 N (x1, x2, x3)
def R125 (F71 : Nat → Int → Option Int) (N : Nat) (x1 : Int) (x2 : Int) (x3 : Int) : Option Int :=
  bindS (F71 N x1) (fun (y0 : Int) => br (decide (u64.wrap y0 = 0))
 (some (0))
 (chk (!decide (u64.wrap y0 = 0)) (br (!decide (x2.tmod (u64.wrap y0) = 0))
 (some (4))
 (jp (fun (y1 : Bool) => br y1
 (some (3))
 (some (0)))
 (fun K2 => br (decide (x3 < i64.wrap (u64.wrap y0)))
 (K2 true)
 (K2 (decide (u64.wrap (u64.wrap x3 - u64.wrap y0) < x2))))))))
theorem e125 : g125' = R125 g71' := by kernel_rfl
def F125 : Nat → Int → Int → Int → Option Int := R125 F71
theorem F125_eq : g125' = F125 := by
  rw [e125, F71_eq, F125]
def g86' (N : Nat) (x1 : Int × P2St) (x2 : Int) (x3 : Int) (x4 : Bool) (x5 : List Int) (x6 : List Int) : Option (Int × Bool) := f86 N (x1, x2, x3, x4, x5, x6)
def R86 (F124 : Nat → P9St → Int → Option Int) (F125 : Nat → Int → Int → Int → Option Int) (F27 : Nat → Int → (List Int) → Option (P9St × Int)) (F55 : Nat → (List Int) → Option Int) (F71 : Nat → Int → Option Int) (N : Nat) (x1 : Int × P2St) (x2 : Int) (x3 : Int) (x4 : Bool) (x5 : List Int) (x6 : List Int) : Option (Int × Bool) :=
  bindS (F27 N x1.1 x6) (fun (y0 : P9St × Int) => bindS (F71 N y0.1.1) (fun (y1 : Int) => chk (decide (0 ≤ y0.1.2.2.1) && decide (y0.1.2.2.1 < (↑32 : Int))) (bindS (F124 N y0.1 (x1.2.1.getD y0.1.2.2.1.toNat 0)) (fun (y2 : Int) => jp (fun (y3 : Bool) => br y3
 (some ((0, false)))
 (jp (fun (y4 : Int × Bool) => some ((y4.1, y4.2)))
 (fun K5 => chk (decide (0 ≤ i64.wrap y2) && decide (0 ≤ i64.wrap (i64.wrap y2 + y1)) && (i64.wrap y2).toNat.ble (i64.wrap (i64.wrap y2 + y1)).toNat && (i64.wrap (i64.wrap y2 + y1)).toNat.ble x5.length) (bindS (F55 N ((List.take ((i64.wrap (i64.wrap y2 + y1)).toNat - (i64.wrap y2).toNat) (List.drop (0 + (i64.wrap y2).toNat) x5)))) (fun (y6 : Int) => br (!x4)
 (K5 ((y6, true)))
 (br (!decide (x2 = i64.wrap y2))
 (K5 ((y6, true)))
 (K5 ((y6, !decide (x3 = y1))))))))))
 (fun K7 => br (!decide (y0.2 = 0))
 (K7 true)
 (br (decide (y1 = 0))
 (K7 true)
 (bindS (F125 N y0.1.1 y2 ((↑x5.length : Int))) (fun (y8 : Int) => K7 (!decide (y8 = 0))))))))))
theorem e86 : g86' = R86 g124' g125' g27' g55' g71' := by kernel_rfl
def F86 : Nat → (Int × P2St) → Int → Int → Bool → (List Int) → (List Int) → Option (Int × Bool) := R86 F124 F125 F27 F55 F71
theorem F86_eq : g86' = F86 := by
  rw [e86, F124_eq, F125_eq, F27_eq, F55_eq, F71_eq, F86]
def g123' (N : Nat) (x1 : Int) : Option Bool := f123 N (x1)
def R123 (F71 : Nat → Int → Option Int) (N : Nat) (x1 : Int) : Option Bool :=
  bindS (F71 N x1) (fun (y0 : Int) => some (decide (0 < y0)))
theorem e123 : g123' = R123 g71' := by kernel_rfl
def F123 : Nat → Int → Option Bool := R123 F71
theorem F123_eq : g123' = F123 := by
  rw [e123, F71_eq, F123]
def g68' (N : Nat) (x1 : Int × P2St) (x2 : P9St) (x3 : Int) : Option (Int × Int) := f68 N (x1, x2, x3)
def R68 (F123 : Nat → Int → Option Bool) (F124 : Nat → P9St → Int → Option Int) (F125 : Nat → Int → Int → Int → Option Int) (N : Nat) (x1 : Int × P2St) (x2 : P9St) (x3 : Int) : Option (Int × Int) :=
  br (decide (x2.1 = 52))
 (some ((1, 0)))
 (br (decide (x2.1 = 53))
 (some ((2, 0)))
 (bindS (F123 N x2.1) (fun (y0 : Bool) => br (!y0)
 (some ((0, 0)))
 (chk (decide (0 ≤ x2.2.2.1) && decide (x2.2.2.1 < (↑32 : Int))) (bindS (F124 N x2 (x1.2.1.getD x2.2.2.1.toNat 0)) (fun (y1 : Int) => bindS (F125 N x2.1 y1 x3) (fun (y2 : Int) => br (decide (y2 = 4))
 (some ((5, y1)))
 (br (decide (y2 = 3))
 (some ((6, y1)))
 (some ((0, y1)))))))))))
theorem e68 : g68' = R68 g123' g124' g125' := by kernel_rfl
def F68 : Nat → (Int × P2St) → P9St → Int → Option (Int × Int) := R68 F123 F124 F125
theorem F68_eq : g68' = F68 := by
  rw [e68, F123_eq, F124_eq, F125_eq, F68]
def g69' (N : Nat) (x1 : Int) : Option Bool := f69 N (x1)
def R69 (F72 : Nat → Int → Option Int) (N : Nat) (x1 : Int) : Option Bool :=
  bindS (F72 N x1) (fun (y0 : Int) => jp (fun (y1 : Bool) => br y1
 (some true)
 (some false))
 (fun K2 => br (decide (y0 = 4))
 (K2 true)
 (br (decide (y0 = 10))
 (K2 true)
 (K2 (decide (y0 = 12))))))
theorem e69 : g69' = R69 g72' := by kernel_rfl
def F69 : Nat → Int → Option Bool := R69 F72
theorem F69_eq : g69' = F69 := by
  rw [e69, F72_eq, F69]
def g73' (N : Nat) (x1 : Int) : Option Bool := f73 N (x1)
def R73 (F72 : Nat → Int → Option Int) (N : Nat) (x1 : Int) : Option Bool :=
  bindS (F72 N x1) (fun (y0 : Int) => jp (fun (y1 : Bool) => br y1
 (some true)
 (some false))
 (fun K2 => br (decide (y0 = 5))
 (K2 true)
 (br (decide (y0 = 11))
 (K2 true)
 (K2 (decide (y0 = 12))))))
theorem e73 : g73' = R73 g72' := by kernel_rfl
def F73 : Nat → Int → Option Bool := R73 F72
theorem F73_eq : g73' = F73 := by
  rw [e73, F72_eq, F73]
def g126' (N : Nat) (x1 : Int) (x2 : Int) (x3 : Int) (x4 : Int) : Option Int := f126 N (x1, x2, x3, x4)
def R126 (F70 : Nat → Int → Int → Option Int) (N : Nat) (x1 : Int) (x2 : Int) (x3 : Int) (x4 : Int) : Option Int :=
  bindS (F70 N x2 x4) (fun (y0 : Int) => bindS (F70 N x3 x4) (fun (y1 : Int) => br (decide ((i64.wrap (x1 - 58)).tmod 9 = 0))
 (some x3)
 (br (decide ((i64.wrap (x1 - 58)).tmod 9 = 1))
 (some (u64.wrap (x2 + x3)))
 (br (decide ((i64.wrap (x1 - 58)).tmod 9 = 2))
 (some (bits BinOp.xor u64 x2 x3))
 (br (decide ((i64.wrap (x1 - 58)).tmod 9 = 3))
 (some (bits BinOp.and u64 x2 x3))
 (br (decide ((i64.wrap (x1 - 58)).tmod 9 = 4))
 (some (bits BinOp.or u64 x2 x3))
 (br (decide ((i64.wrap (x1 - 58)).tmod 9 = 5))
 (some (u64.wrap (if i64.wrap x3 < i64.wrap x2 then i64.wrap x3 else i64.wrap x2)))
 (br (decide ((i64.wrap (x1 - 58)).tmod 9 = 6))
 (some (u64.wrap (if i64.wrap x3 > i64.wrap x2 then i64.wrap x3 else i64.wrap x2)))
 (br (decide ((i64.wrap (x1 - 58)).tmod 9 = 7))
 (some (if y1 < y0 then y1 else y0))
 (some (if y1 > y0 then y1 else y0)))))))))))
theorem e126 : g126' = R126 g70' := by kernel_rfl
def F126 : Nat → Int → Int → Int → Int → Option Int := R126 F70
theorem F126_eq : g126' = F126 := by
  rw [e126, F70_eq, F126]
def g74' (N : Nat) (x1 : Int) (x2 : Int) (x3 : Int) : Option Int := f74 N (x1, x2, x3)
def R74 (F126 : Nat → Int → Int → Int → Int → Option Int) (F127 : Nat → Int → Int → Option Int) (F70 : Nat → Int → Int → Option Int) (F71 : Nat → Int → Option Int) (F72 : Nat → Int → Option Int) (N : Nat) (x1 : Int) (x2 : Int) (x3 : Int) : Option Int :=
  bindS (F71 N x1) (fun (y0 : Int) => bindS (F72 N x1) (fun (y1 : Int) => jp (fun (y2 : Bool) => br y2
 (bindS (F70 N x3 (i64.wrap (8 * y0))) (fun (y3 : Int) => some y3))
 (br (decide (y1 = 12))
 (bindS (F127 N x2 (i64.wrap (8 * y0))) (fun (y4 : Int) => bindS (F127 N x3 (i64.wrap (8 * y0))) (fun (y5 : Int) => bindS (F126 N x1 y4 y5 (i64.wrap (8 * y0))) (fun (y6 : Int) => bindS (F70 N y6 (i64.wrap (8 * y0))) (fun (y7 : Int) => some y7)))))
 (some (0))))
 (fun K8 => br (decide (y1 = 5))
 (K8 true)
 (K8 (decide (y1 = 11))))))
theorem e74 : g74' = R74 g126' g127' g70' g71' g72' := by kernel_rfl
def F74 : Nat → Int → Int → Int → Option Int := R74 F126 F127 F70 F71 F72
theorem F74_eq : g74' = F74 := by
  rw [e74, F126_eq, F127_eq, F70_eq, F71_eq, F72_eq, F74]
def g128' (N : Nat) (x1 : P9St) (x2 : Int) (x3 : Int) : Option Bool := f128 N (x1, x2, x3)
def F128 (N : Nat) (x1 : P9St) (x2 : Int) (x3 : Int) : Option Bool :=
  br (decide (x1.1 = 5))
 (some (decide (x2 = x3)))
 (br (decide (x1.1 = 6))
 (some (!decide (x2 = x3)))
 (br (decide (x1.1 = 7))
 (some (decide (i64.wrap x2 < i64.wrap x3)))
 (br (decide (x1.1 = 8))
 (some (decide (i64.wrap x3 ≤ i64.wrap x2)))
 (br (decide (x1.1 = 9))
 (some (decide (x2 < x3)))
 (br (decide (x1.1 = 10))
 (some (decide (x3 ≤ x2)))
 (some false))))))
theorem F128_eq : g128' = F128 := by kernel_rfl
def g75' (N : Nat) (x1 : P9St) (x2 : Int) (x3 : Int) (x4 : Int) : Option Int := f75 N (x1, x2, x3, x4)
def R75 (F128 : Nat → P9St → Int → Int → Option Bool) (N : Nat) (x1 : P9St) (x2 : Int) (x3 : Int) (x4 : Int) : Option Int :=
  jp (fun (y0 : Bool) => br y0
 (some (u64.wrap (x2 + u64.wrap x1.2.2.2.2.1)))
 (br (decide (x1.1 = 4))
 (some (bits BinOp.andNot u64 (u64.wrap (x3 + u64.wrap x1.2.2.2.2.1)) 1))
 (some (u64.wrap (x2 + 4)))))
 (fun K1 => br (decide (x1.1 = 3))
 (K1 true)
 (bindS (F128 N x1 x3 x4) (fun (y2 : Bool) => K1 y2)))
theorem e75 : g75' = R75 g128' := by kernel_rfl
def F75 : Nat → P9St → Int → Int → Int → Option Int := R75 F128
theorem F75_eq : g75' = F75 := by
  rw [e75, F128_eq, F75]
def g130' (N : Nat) (x1 : Int) (x2 : Int) : Option Int := f130 N (x1, x2)
def R130 (F127 : Nat → Int → Int → Option Int) (F70 : Nat → Int → Int → Option Int) (F71 : Nat → Int → Option Int) (F72 : Nat → Int → Option Int) (N : Nat) (x1 : Int) (x2 : Int) : Option Int :=
  bindS (F71 N x1) (fun (y0 : Int) => bindS (F72 N x1) (fun (y1 : Int) => jp (fun (y2 : PUnit) => bindS (F127 N x2 (i64.wrap (8 * y0))) (fun (y3 : Int) => some y3))
 (fun K4 => br (decide (y1 = 4))
 (br (decide (15 ≤ x1))
 (bindS (F70 N x2 (i64.wrap (8 * y0))) (fun (y5 : Int) => some y5))
 (K4 ()))
 (jp (fun (y6 : Bool) => br y6
 (K4 ())
 (some (0)))
 (fun K7 => br (decide (y1 = 10))
 (K7 true)
 (K7 (decide (y1 = 12))))))))
theorem e130 : g130' = R130 g127' g70' g71' g72' := by kernel_rfl
def F130 : Nat → Int → Int → Option Int := R130 F127 F70 F71 F72
theorem F130_eq : g130' = F130 := by
  rw [e130, F127_eq, F70_eq, F71_eq, F72_eq, F130]
def g180' (N : Nat)  : Option (List Int) := f180 N ()
def F180 (N : Nat)  : Option (List Int) :=
  some ([35, 38, 39, 40, 43, 44, 37, 41, 42, 45, 47, 48, 49])
theorem F180_eq : g180' = F180 := by kernel_rfl
def g210' (N : Nat) (x1 : Bool) : Option Int := f210 N (x1)
def F210 (N : Nat) (x1 : Bool) : Option Int :=
  br x1
 (some (1))
 (some (0))
theorem F210_eq : g210' = F210 := by kernel_rfl
def g211' (N : Nat) (x1 : Int) : Option Int := f211 N (x1)
def R211 (F127 : Nat → Int → Int → Option Int) (N : Nat) (x1 : Int) : Option Int :=
  bindS (F127 N x1 32) (fun (y0 : Int) => some y0)
theorem e211 : g211' = R211 g127' := by kernel_rfl
def F211 : Nat → Int → Option Int := R211 F127
theorem F211_eq : g211' = F211 := by
  rw [e211, F127_eq, F211]
def g179' (N : Nat) (x1 : Int) (x2 : Int) (x3 : Int) : Option Int := f179 N (x1, x2, x3)
def R179 (F210 : Nat → Bool → Option Int) (F211 : Nat → Int → Option Int) (F70 : Nat → Int → Int → Option Int) (N : Nat) (x1 : Int) (x2 : Int) (x3 : Int) : Option Int :=
  br (decide (x1 = 35))
 (some (u64.wrap (x2 + x3)))
 (br (decide (x1 = 36))
 (some (u64.wrap (x2 - x3)))
 (br (decide (x1 = 37))
 (some (u64.wrap (x2 * 2 ^ Min.min (bits BinOp.and u64 x3 63).toNat u64.bits)))
 (br (decide (x1 = 38))
 (bindS (F210 N ((decide (i64.wrap x2 < i64.wrap x3)))) (fun (y0 : Int) => some y0))
 (br (decide (x1 = 39))
 (bindS (F210 N ((decide (x2 < x3)))) (fun (y1 : Int) => some y1))
 (br (decide (x1 = 40))
 (some (bits BinOp.xor u64 x2 x3))
 (br (decide (x1 = 41))
 (some (x2.fdiv (2 ^ Min.min (bits BinOp.and u64 x3 63).toNat u64.bits)))
 (br (decide (x1 = 42))
 (some (u64.wrap ((i64.wrap x2).fdiv (2 ^ Min.min (bits BinOp.and u64 x3 63).toNat i64.bits))))
 (br (decide (x1 = 43))
 (some (bits BinOp.or u64 x2 x3))
 (br (decide (x1 = 44))
 (some (bits BinOp.and u64 x2 x3))
 (br (decide (x1 = 45))
 (bindS (F211 N ((u64.wrap (x2 + x3)))) (fun (y2 : Int) => some y2))
 (br (decide (x1 = 46))
 (bindS (F211 N ((u64.wrap (x2 - x3)))) (fun (y3 : Int) => some y3))
 (br (decide (x1 = 47))
 (bindS (F211 N ((u64.wrap (x2 * 2 ^ Min.min (bits BinOp.and u64 x3 31).toNat u64.bits)))) (fun (y4 : Int) => some y4))
 (br (decide (x1 = 48))
 (bindS (F70 N x2 32) (fun (y5 : Int) => bindS (F211 N ((y5.fdiv (2 ^ Min.min (bits BinOp.and u64 x3 31).toNat u64.bits)))) (fun (y6 : Int) => some y6)))
 (br (decide (x1 = 49))
 (bindS (F211 N x2) (fun (y7 : Int) => some (u64.wrap ((i64.wrap y7).fdiv (2 ^ Min.min (bits BinOp.and u64 x3 31).toNat i64.bits)))))
 (some (0))))))))))))))))
theorem e179 : g179' = R179 g210' g211' g70' := by kernel_rfl
def F179 : Nat → Int → Int → Int → Option Int := R179 F210 F211 F70
theorem F179_eq : g179' = F179 := by
  rw [e179, F210_eq, F211_eq, F70_eq, F179]
def g131' (N : Nat) (x1 : P9St) (x2 : Int) (x3 : Int) (x4 : Int) : Option Int := f131 N (x1, x2, x3, x4)
def R131 (F179 : Nat → Int → Int → Int → Option Int) (F180 : Nat → Option (List Int)) (F72 : Nat → Int → Option Int) (N : Nat) (x1 : P9St) (x2 : Int) (x3 : Int) (x4 : Int) : Option Int :=
  bindS (F72 N x1.1) (fun (y0 : Int) => br (decide (y0 = 1))
 (br (decide (x1.1 = 1))
 (some (u64.wrap x1.2.2.2.2.1))
 (some (u64.wrap (x2 + u64.wrap x1.2.2.2.2.1))))
 (br (decide (y0 = 2))
 (some (u64.wrap (x2 + 4)))
 (br (decide (y0 = 6))
 (bindS (F180 N ) (fun (y1 : List Int) => chk (decide (0 ≤ i64.wrap (x1.1 - 22)) && decide (i64.wrap (x1.1 - 22) < (↑13 : Int))) (bindS (F179 N (y1.getD (i64.wrap (x1.1 - 22)).toNat 0) x3 (u64.wrap x1.2.2.2.2.1)) (fun (y2 : Int) => some y2))))
 (br (decide (y0 = 7))
 (bindS (F179 N x1.1 x3 x4) (fun (y3 : Int) => some y3))
 (some (0))))))
theorem e131 : g131' = R131 g179' g180' g72' := by kernel_rfl
def F131 : Nat → P9St → Int → Int → Int → Option Int := R131 F179 F180 F72
theorem F131_eq : g131' = F131 := by
  rw [e131, F179_eq, F180_eq, F72_eq, F131]
def g77' (N : Nat) (x1 : Int × P2St) (x2 : P9St) (x3 : Int) (x4 : Bool) : Option Int := f77 N (x1, x2, x3, x4)
def R77 (F130 : Nat → Int → Int → Option Int) (F131 : Nat → P9St → Int → Int → Int → Option Int) (F69 : Nat → Int → Option Bool) (F72 : Nat → Int → Option Int) (N : Nat) (x1 : Int × P2St) (x2 : P9St) (x3 : Int) (x4 : Bool) : Option Int :=
  bindS (F69 N x2.1) (fun (y0 : Bool) => br y0
 (bindS (F130 N x2.1 x3) (fun (y1 : Int) => some y1))
 (bindS (F72 N x2.1) (fun (y2 : Int) => br (!decide (y2 = 11))
 (chk (decide (0 ≤ x2.2.2.1) && decide (x2.2.2.1 < (↑32 : Int))) (chk (decide (0 ≤ x2.2.2.2.1) && decide (x2.2.2.2.1 < (↑32 : Int))) (bindS (F131 N x2 x1.1 (x1.2.1.getD x2.2.2.1.toNat 0) (x1.2.1.getD x2.2.2.2.1.toNat 0)) (fun (y3 : Int) => some y3))))
 (br x4
 (some (1))
 (some (0))))))
theorem e77 : g77' = R77 g130' g131' g69' g72' := by kernel_rfl
def F77 : Nat → (Int × P2St) → P9St → Int → Bool → Option Int := R77 F130 F131 F69 F72
theorem F77_eq : g77' = F77 := by
  rw [e77, F130_eq, F131_eq, F69_eq, F72_eq, F77]
def g29' (N : Nat) (x1 : Int × P2St) (x2 : Int) (x3 : Bool) (x4 : List Int) : Option (P12St) := f29 N (x1, x2, x3, x4)
def R29 (F27 : Nat → Int → (List Int) → Option (P9St × Int)) (F68 : Nat → (Int × P2St) → P9St → Int → Option (Int × Int)) (F69 : Nat → Int → Option Bool) (F70 : Nat → Int → Int → Option Int) (F71 : Nat → Int → Option Int) (F72 : Nat → Int → Option Int) (F73 : Nat → Int → Option Bool) (F74 : Nat → Int → Int → Int → Option Int) (F75 : Nat → P9St → Int → Int → Int → Option Int) (F76 : Nat → P9St → Option Int) (F77 : Nat → (Int × P2St) → P9St → Int → Bool → Option Int) (N : Nat) (x1 : Int × P2St) (x2 : Int) (x3 : Bool) (x4 : List Int) : Option (P12St) :=
  br (!decide (x1.2.2 = 0))
 (some (((x1.1, (setD 0 x1.2.1 (0) 0, x1.2.2)), (0, ((0, (0, (0, (0, (0, (false, (false, (0, 0)))))))), (0, (0, (0, (0, (0, false))))))))))
 (bindS (F27 N x1.1 x4) (fun (y0 : P9St × Int) => jp (fun (y1 : Int × P10St) => br (!decide (y1.2.2.1 = 0))
 (some (((x1.1, (setD 0 x1.2.1 (0) 0, y1.2.2.1)), y1)))
 (jp (fun (y2 : Int × P10St) => jp (fun (y3 : Int × P10St) => jp (fun (y4 : Int × P10St) => chk (decide (0 ≤ y0.1.2.2.1) && decide (y0.1.2.2.1 < (↑32 : Int))) (chk (decide (0 ≤ y0.1.2.2.2.1) && decide (y0.1.2.2.2.1 < (↑32 : Int))) (bindS (F75 N y0.1 x1.1 ((setD 0 x1.2.1 (0) 0).getD y0.1.2.2.1.toNat 0) ((setD 0 x1.2.1 (0) 0).getD y0.1.2.2.2.1.toNat 0)) (fun (y5 : Int) => jp (fun (y6 : P12St) => some (((y5, y6.1.2), y6.2)))
 (fun K7 => bindS (F76 N y0.1) (fun (y8 : Int) => br (decide (0 < y8))
 (bindS (F77 N ((x1.1, setD 0 x1.2.1 (0) 0, x1.2.2)) y0.1 x2 x3) (fun (y9 : Int) => chk (decide (0 ≤ y8) && decide (y8 < (↑32 : Int))) (K7 (((x1.1, (setD 0 (setD 0 x1.2.1 (0) 0) y8.toNat y9, x1.2.2)), (y4.1, (y4.2.1, (y4.2.2.1, (y9, y4.2.2.2.2)))))))))
 (K7 (((x1.1, (setD 0 x1.2.1 (0) 0, x1.2.2)), y4)))))))))
 (fun K10 => jp (fun (y11 : Bool) => br y11
 (chk (decide (0 ≤ y0.1.2.2.2.1) && decide (y0.1.2.2.2.1 < (↑32 : Int))) (bindS (F74 N y0.1.1 x2 ((setD 0 x1.2.1 (0) 0).getD y0.1.2.2.2.1.toNat 0)) (fun (y12 : Int) => K10 ((y3.1, (y3.2.1, (y3.2.2.1, (y3.2.2.2.1, (y3.2.2.2.2.1, (y3.2.2.2.2.2.1, (y12, y3.2.2.2.2.2.2.2)))))))))))
 (K10 y3))
 (fun K13 => bindS (F73 N y0.1.1) (fun (y14 : Bool) => br y14
 (K13 (!y3.2.2.2.2.2.2.2))
 (K13 false)))))
 (fun K15 => br x3
 (bindS (F72 N y0.1.1) (fun (y16 : Int) => K15 ((y2.1, (y2.2.1, (y2.2.2.1, (y2.2.2.2.1, (y2.2.2.2.2.1, (y2.2.2.2.2.2.1, (y2.2.2.2.2.2.2.1, decide (y16 = 11)))))))))))
 (K15 ((y2.1, (y2.2.1, (y2.2.2.1, (y2.2.2.2.1, (y2.2.2.2.2.1, (y2.2.2.2.2.2.1, (y2.2.2.2.2.2.2.1, false)))))))))))
 (fun K17 => bindS (F69 N y0.1.1) (fun (y18 : Bool) => br y18
 (bindS (F71 N y0.1.1) (fun (y19 : Int) => bindS (F70 N x2 (i64.wrap (8 * y19))) (fun (y20 : Int) => K17 ((y1.1, (y1.2.1, (y1.2.2.1, (y1.2.2.2.1, (y1.2.2.2.2.1, (y20, y1.2.2.2.2.2.2))))))))))
 (K17 y1)))))
 (fun K21 => br (decide (y0.2 = 0))
 (bindS (F68 N ((x1.1, setD 0 x1.2.1 (0) 0, x1.2.2)) y0.1 ((↑x4.length : Int))) (fun (y22 : Int × Int) => K21 ((x1.1, (y0.1, (y22.1, (0, (y22.2, (0, (0, false))))))))))
 (K21 ((x1.1, (y0.1, (y0.2, (0, (0, (0, (0, false))))))))))))
theorem e29 : g29' = R29 g27' g68' g69' g70' g71' g72' g73' g74' g75' g76' g77' := by kernel_rfl
def F29 : Nat → (Int × P2St) → Int → Bool → (List Int) → Option (P12St) := R29 F27 F68 F69 F70 F71 F72 F73 F74 F75 F76 F77
theorem F29_eq : g29' = F29 := by
  rw [e29, F27_eq, F68_eq, F69_eq, F70_eq, F71_eq, F72_eq, F73_eq, F74_eq, F75_eq, F76_eq, F77_eq, F29]
def g67' (N : Nat) (x1 : Int) (x2 : Int) : Option (List Int) := f67 N (x1, x2)
def F67 (N : Nat) (x1 : Int) (x2 : Int) : Option (List Int) :=
  fixN N (fun again0 (y1 : Int × Int × List Int) => br (decide (y1.2.1 < if 8 < x2 then 8 else x2))
 (chk (decide ((y1.2.2.length + [u8.wrap y1.1].length) * 1 ≤ lim)) (again0 ((y1.1.fdiv (2 ^ Min.min (8) u64.bits), (i64.wrap (y1.2.1 + 1), y1.2.2 ++ [u8.wrap y1.1])))))
 (some y1.2.2))
 ((x1, (0, [])))
theorem F67_eq : g67' = F67 := by kernel_rfl
def g87' (N : Nat) (x1 : Int × P10St) (x2 : Int) (x3 : Int) (x4 : Bool) (x5 : List Int) : Option (Int × Int × Bool × List Int) := f87 N (x1, x2, x3, x4, x5)
def R87 (F67 : Nat → Int → Int → Option (List Int)) (F71 : Nat → Int → Option Int) (F72 : Nat → Int → Option Int) (F73 : Nat → Int → Option Bool) (N : Nat) (x1 : Int × P10St) (x2 : Int) (x3 : Int) (x4 : Bool) (x5 : List Int) : Option (Int × Int × Bool × List Int) :=
  br (!decide (x1.2.2.1 = 0))
 (some ((x2, (x3, (x4, x5)))))
 (bindS (F71 N x1.2.1.1) (fun (y0 : Int) => bindS (F72 N x1.2.1.1) (fun (y1 : Int) => jp (fun (y2 : P3St) => jp (fun (y3 : Bool) => br y3
 (chk (decide (0 ≤ x1.2.2.2.2.1) && true && x1.2.2.2.2.1.toNat.ble x5.length && x5.length.ble x5.length) (bindS (F67 N x1.2.2.2.2.2.2.1 y0) (fun (y4 : List Int) => some ((y2.1, (y2.2.1, (y2.2.2, List.take (0 + x1.2.2.2.2.1.toNat) x5 ++ (List.take (Min.min y4.length (x5.length - x1.2.2.2.2.1.toNat)) y4 ++ List.drop (0 + x1.2.2.2.2.1.toNat + Min.min y4.length (x5.length - x1.2.2.2.2.1.toNat)) x5))))))))
 (some ((y2.1, (y2.2.1, (y2.2.2, x5))))))
 (fun K5 => bindS (F73 N x1.2.1.1) (fun (y6 : Bool) => br y6
 (K5 (!x1.2.2.2.2.2.2.2))
 (K5 false))))
 (fun K7 => br (decide (y1 = 10))
 (K7 ((i64.wrap x1.2.2.2.2.1, (y0, true))))
 (br (decide (y1 = 11))
 (K7 ((x2, (x3, false))))
 (K7 ((x2, (x3, x4)))))))))
theorem e87 : g87' = R87 g67' g71' g72' g73' := by kernel_rfl
def F87 : Nat → (Int × P10St) → Int → Int → Bool → (List Int) → Option (Int × Int × Bool × List Int) := R87 F67 F71 F72 F73
theorem F87_eq : g87' = F87 := by
  rw [e87, F67_eq, F71_eq, F72_eq, F73_eq, F87]
def g31' (N : Nat) (x1 : Int × P2St) (x2 : Int) (x3 : List Int) : Option ((Int × P2St) × (List Int) × P11St) := f31 N (x1, x2, x3)
def R31 (F29 : Nat → (Int × P2St) → Int → Bool → (List Int) → Option (P12St)) (F85 : Nat → (List Int) → Option (List Int)) (F86 : Nat → (Int × P2St) → Int → Int → Bool → (List Int) → (List Int) → Option (Int × Bool)) (F87 : Nat → (Int × P10St) → Int → Int → Bool → (List Int) → Option (Int × Int × Bool × List Int)) (N : Nat) (x1 : Int × P2St) (x2 : Int) (x3 : List Int) : Option ((Int × P2St) × (List Int) × P11St) :=
  bindS (F85 N x3) (fun (y0 : List Int) => jp (fun (y1 : (Int × P2St) × Int × Int × Bool × P11St × List Int) => some ((y1.1, (y1.2.2.2.2.2, y1.2.2.2.2.1))))
 (fun K2 => fixN N (fun again3 (y4 : Int × (Int × P2St) × Int × Int × Bool × P11St × List Int) => br (decide (y4.1 < if (if 100000 < x2 then 100000 else x2) > 0 then if 100000 < x2 then 100000 else x2 else 0))
 (br (!decide (y4.2.1.2.2 = 0))
 (K2 ((y4.2.1, (y4.2.2.1, (y4.2.2.2.1, (y4.2.2.2.2.1, (y4.2.2.2.2.2.1, y4.2.2.2.2.2.2)))))))
 (bindS (F86 N y4.2.1 y4.2.2.1 y4.2.2.2.1 y4.2.2.2.2.1 y4.2.2.2.2.2.2 x3) (fun (y5 : Int × Bool) => bindS (F29 N y4.2.1 y5.1 y5.2 x3) (fun (y6 : P12St) => bindS (F87 N y6.2 y4.2.2.1 y4.2.2.2.1 y4.2.2.2.2.1 y4.2.2.2.2.2.2) (fun (y7 : Int × Int × Bool × List Int) => chk (decide ((y4.2.2.2.2.2.1.length + [y6.2].length) * 120 ≤ lim)) (again3 ((i64.wrap (y4.1 + 1), (y6.1, (y7.1, (y7.2.1, (y7.2.2.1, (y4.2.2.2.2.2.1 ++ [y6.2], y7.2.2.2)))))))))))))
 (K2 ((y4.2.1, (y4.2.2.1, (y4.2.2.2.1, (y4.2.2.2.2.1, (y4.2.2.2.2.2.1, y4.2.2.2.2.2.2))))))))
 ((0, ((x1.1, (setD 0 x1.2.1 (0) 0, x1.2.2)), (0, (0, (false, ([], y0)))))))))
theorem e31 : g31' = R31 g29' g85' g86' g87' := by kernel_rfl
def F31 : Nat → (Int × P2St) → Int → (List Int) → Option ((Int × P2St) × (List Int) × P11St) := R31 F29 F85 F86 F87
theorem F31_eq : g31' = F31 := by
  rw [e31, F29_eq, F85_eq, F86_eq, F87_eq, F31]
def g96' (N : Nat)  : Option (List (List UInt8)) := f96 N ()
def F96 (N : Nat)  : Option (List (List UInt8)) :=
  some ([([108, 117, 105] : List UInt8), ([97, 117, 105, 112, 99] : List UInt8), ([106, 97, 108] : List UInt8), ([106, 97, 108, 114] : List UInt8), ([98, 101, 113] : List UInt8), ([98, 110, 101] : List UInt8), ([98, 108, 116] : List UInt8), ([98, 103, 101] : List UInt8), ([98, 108, 116, 117] : List UInt8), ([98, 103, 101, 117] : List UInt8), ([108, 98] : List UInt8), ([108, 104] : List UInt8), ([108, 119] : List UInt8), ([108, 100] : List UInt8), ([108, 98, 117] : List UInt8), ([108, 104, 117] : List UInt8), ([108, 119, 117] : List UInt8), ([115, 98] : List UInt8), ([115, 104] : List UInt8), ([115, 119] : List UInt8), ([115, 100] : List UInt8), ([97, 100, 100, 105] : List UInt8), ([115, 108, 116, 105] : List UInt8), ([115, 108, 116, 105, 117] : List UInt8), ([120, 111, 114, 105] : List UInt8), ([111, 114, 105] : List UInt8), ([97, 110, 100, 105] : List UInt8), ([115, 108, 108, 105] : List UInt8), ([115, 114, 108, 105] : List UInt8), ([115, 114, 97, 105] : List UInt8), ([97, 100, 100, 105, 119] : List UInt8), ([115, 108, 108, 105, 119] : List UInt8), ([115, 114, 108, 105, 119] : List UInt8), ([115, 114, 97, 105, 119] : List UInt8), ([97, 100, 100] : List UInt8), ([115, 117, 98] : List UInt8), ([115, 108, 108] : List UInt8), ([115, 108, 116] : List UInt8), ([115, 108, 116, 117] : List UInt8), ([120, 111, 114] : List UInt8), ([115, 114, 108] : List UInt8), ([115, 114, 97] : List UInt8), ([111, 114] : List UInt8), ([97, 110, 100] : List UInt8), ([97, 100, 100, 119] : List UInt8), ([115, 117, 98, 119] : List UInt8), ([115, 108, 108, 119] : List UInt8), ([115, 114, 108, 119] : List UInt8), ([115, 114, 97, 119] : List UInt8), ([102, 101, 110, 99, 101] : List UInt8), ([102, 101, 110, 99, 101, 46, 116, 115, 111] : List UInt8), ([101, 99, 97, 108, 108] : List UInt8), ([101, 98, 114, 101, 97, 107] : List UInt8), ([108, 114, 46, 119] : List UInt8), ([108, 114, 46, 100] : List UInt8), ([115, 99, 46, 119] : List UInt8), ([115, 99, 46, 100] : List UInt8), ([97, 109, 111, 115, 119, 97, 112, 46, 119] : List UInt8), ([97, 109, 111, 97, 100, 100, 46, 119] : List UInt8), ([97, 109, 111, 120, 111, 114, 46, 119] : List UInt8), ([97, 109, 111, 97, 110, 100, 46, 119] : List UInt8), ([97, 109, 111, 111, 114, 46, 119] : List UInt8), ([97, 109, 111, 109, 105, 110, 46, 119] : List UInt8), ([97, 109, 111, 109, 97, 120, 46, 119] : List UInt8), ([97, 109, 111, 109, 105, 110, 117, 46, 119] : List UInt8), ([97, 109, 111, 109, 97, 120, 117, 46, 119] : List UInt8), ([97, 109, 111, 115, 119, 97, 112, 46, 100] : List UInt8), ([97, 109, 111, 97, 100, 100, 46, 100] : List UInt8), ([97, 109, 111, 120, 111, 114, 46, 100] : List UInt8), ([97, 109, 111, 97, 110, 100, 46, 100] : List UInt8), ([97, 109, 111, 111, 114, 46, 100] : List UInt8), ([97, 109, 111, 109, 105, 110, 46, 100] : List UInt8), ([97, 109, 111, 109, 97, 120, 46, 100] : List UInt8), ([97, 109, 111, 109, 105, 110, 117, 46, 100] : List UInt8), ([97, 109, 111, 109, 97, 120, 117, 46, 100] : List UInt8)])
theorem F96_eq : g96' = F96 := by kernel_rfl
def g47' (N : Nat) (x1 : Int) : Option (List UInt8) := f47 N (x1)
def R47 (F96 : Nat → Option (List (List UInt8))) (N : Nat) (x1 : Int) : Option (List UInt8) :=
  bindS (F96 N ) (fun (y0 : List (List UInt8)) => jp (fun (y1 : Bool) => br y1
 (some [])
 (chk (decide (0 ≤ i64.wrap (x1 - 1)) && decide (i64.wrap (x1 - 1) < (↑y0.length : Int))) (some (y0.getD (i64.wrap (x1 - 1)).toNat []))))
 (fun K2 => br (decide (x1 < 1))
 (K2 true)
 (K2 (decide ((↑y0.length : Int) < x1)))))
theorem e47 : g47' = R47 g96' := by kernel_rfl
def F47 : Nat → Int → Option (List UInt8) := R47 F96
theorem F47_eq : g47' = F47 := by
  rw [e47, F96_eq, F47]
def g40' (N : Nat) (x1 : Int) : Option Int := f40 N (x1)
def F40 (N : Nat) (x1 : Int) : Option Int :=
  br (decide (x1 < 1))
 (some (0))
 (fixN N (fun again0 (y1 : Int × Int) => br (decide (y1.2 < (↑[2, 2, 6, 7, 4, 13, 15, 2, 2, 2, 2, 18].length : Int)))
 (chk (decide (0 ≤ y1.2) && decide (y1.2 < (↑[2, 2, 6, 7, 4, 13, 15, 2, 2, 2, 2, 18].length : Int))) (br (decide (y1.1 ≤ [2, 2, 6, 7, 4, 13, 15, 2, 2, 2, 2, 18].getD y1.2.toNat 0))
 (some (i64.wrap (y1.2 + 1)))
 (chk (decide (0 ≤ y1.2) && decide (y1.2 < (↑[2, 2, 6, 7, 4, 13, 15, 2, 2, 2, 2, 18].length : Int))) (again0 ((i64.wrap (y1.1 - [2, 2, 6, 7, 4, 13, 15, 2, 2, 2, 2, 18].getD y1.2.toNat 0), i64.wrap (y1.2 + 1)))))))
 (some (0)))
 ((x1, 0)))
theorem F40_eq : g40' = F40 := by kernel_rfl
def g34' (N : Nat) (x1 : Int) : Option Int := f34 N (x1)
def R34 (F40 : Nat → Int → Option Int) (F47 : Nat → Int → Option (List UInt8)) (N : Nat) (x1 : Int) : Option Int :=
  bindS (F47 N x1) (fun (y0 : List UInt8) => bindS (F40 N x1) (fun (y1 : Int) => jp (fun (y2 : Bool) => br y2
 (some (0))
 (chk (decide (0 ≤ i64.wrap ((↑y0.length : Int) - 1)) && decide (i64.wrap ((↑y0.length : Int) - 1) < (↑y0.length : Int))) (jp (fun (y3 : Int) => br (decide (y3 = 98))
 (some (1))
 (br (decide (y3 = 104))
 (some (2))
 (br (decide (y3 = 119))
 (some (4))
 (some (8)))))
 (fun K4 => br (decide ((↑(y0.getD (i64.wrap ((↑y0.length : Int) - 1)).toNat 0).toNat : Int) = 117))
 (chk (decide (0 ≤ i64.wrap ((↑y0.length : Int) - 2)) && decide (i64.wrap ((↑y0.length : Int) - 2) < (↑y0.length : Int))) (K4 ((↑(y0.getD (i64.wrap ((↑y0.length : Int) - 2)).toNat 0).toNat : Int))))
 (K4 ((↑(y0.getD (i64.wrap ((↑y0.length : Int) - 1)).toNat 0).toNat : Int)))))))
 (fun K5 => br (decide (y1 < 4))
 (K5 true)
 (br (decide (5 < y1))
 (K5 (decide (y1 < 10)))
 (K5 false)))))
theorem e34 : g34' = R34 g40' g47' := by kernel_rfl
def F34 : Nat → Int → Option Int := R34 F40 F47
theorem F34_eq : g34' = F34 := by
  rw [e34, F40_eq, F47_eq, F34]
def g35' (N : Nat) (x1 : Int) (x2 : Int) : Option Int := f35 N (x1, x2)
def F35 (N : Nat) (x1 : Int) (x2 : Int) : Option Int :=
  fixN N (fun again0 (y1 : Int × Int) => jp (fun (y2 : Bool) => br y2
 (jp (fun (y3 : Int) => again0 ((y3, i64.wrap (y1.2 + 1))))
 (fun K4 => chk (decide (0 ≤ u64.wrap y1.2)) (br (decide (bits BinOp.and u64 (x1.fdiv (2 ^ Min.min (u64.wrap y1.2).toNat u64.bits)) 1 = 1))
 (chk (decide (0 ≤ u64.wrap y1.2)) (K4 (u64.wrap (y1.1 + u64.wrap (1 * 2 ^ Min.min (u64.wrap y1.2).toNat u64.bits)))))
 (K4 y1.1))))
 (some y1.1))
 (fun K5 => br (decide (y1.2 < 64))
 (K5 (decide (y1.2 < x2)))
 (K5 false)))
 ((0, 0))
theorem F35_eq : g35' = F35 := by kernel_rfl
def g11' (N : Nat) (x1 : Int) (x2 : Int) (x3 : Int) : Option Bool := f11 N (x1, x2, x3)
def R11 (F24 : Nat → (List UInt8) → Int → Option (Int × Int × List Int)) (F26 : Nat → Option Bool) (F31 : Nat → (Int × P2St) → Int → (List Int) → Option ((Int × P2St) × (List Int) × P11St)) (F34 : Nat → Int → Option Int) (F35 : Nat → Int → Int → Option Int) (N : Nat) (x1 : Int) (x2 : Int) (x3 : Int) : Option Bool :=
  bindS (F26 N ) (fun (y0 : Bool) => br (!y0)
 (some false)
 (chk (decide (0 ≤ i64.wrap (x3.tmod 4)) && decide (i64.wrap (x3.tmod 4) < (↑[([115, 98, 32, 120, 49, 44, 32, 48, 40, 120, 50, 41, 10, 108, 98, 117, 32, 120, 51, 44, 32, 48, 40, 120, 50, 41, 10, 104, 97, 108, 116] : List UInt8), ([115, 104, 32, 120, 49, 44, 32, 48, 40, 120, 50, 41, 10, 108, 104, 117, 32, 120, 51, 44, 32, 48, 40, 120, 50, 41, 10, 104, 97, 108, 116] : List UInt8), ([115, 119, 32, 120, 49, 44, 32, 48, 40, 120, 50, 41, 10, 108, 119, 117, 32, 120, 51, 44, 32, 48, 40, 120, 50, 41, 10, 104, 97, 108, 116] : List UInt8), ([115, 100, 32, 120, 49, 44, 32, 48, 40, 120, 50, 41, 10, 108, 100, 32, 120, 51, 44, 32, 48, 40, 120, 50, 41, 10, 104, 97, 108, 116] : List UInt8)].length : Int))) (bindS (F24 N ([([115, 98, 32, 120, 49, 44, 32, 48, 40, 120, 50, 41, 10, 108, 98, 117, 32, 120, 51, 44, 32, 48, 40, 120, 50, 41, 10, 104, 97, 108, 116] : List UInt8), ([115, 104, 32, 120, 49, 44, 32, 48, 40, 120, 50, 41, 10, 108, 104, 117, 32, 120, 51, 44, 32, 48, 40, 120, 50, 41, 10, 104, 97, 108, 116] : List UInt8), ([115, 119, 32, 120, 49, 44, 32, 48, 40, 120, 50, 41, 10, 108, 119, 117, 32, 120, 51, 44, 32, 48, 40, 120, 50, 41, 10, 104, 97, 108, 116] : List UInt8), ([115, 100, 32, 120, 49, 44, 32, 48, 40, 120, 50, 41, 10, 108, 100, 32, 120, 51, 44, 32, 48, 40, 120, 50, 41, 10, 104, 97, 108, 116] : List UInt8)].getD (i64.wrap (x3.tmod 4)).toNat []) 64) (fun (y1 : Int × Int × List Int) => bindS (F31 N ((0, setD 0 (setD 0 [0, 0, 0, 0, 0, 0, 0, 0, 0, 0, 0, 0, 0, 0, 0, 0, 0, 0, 0, 0, 0, 0, 0, 0, 0, 0, 0, 0, 0, 0, 0, 0] (1) x2) (2) ((u64.wrap (u64.wrap ((u64.wrap x1).tdiv 8) * 8)).tmod 64), 0)) 5 y1.2.2) (fun (y2 : (Int × P2St) × (List Int) × P11St) => bindS (F34 N ((i64.wrap (18 + i64.wrap (x3.tmod 4))))) (fun (y3 : Int) => jp (fun (y4 : Bool) => some y4)
 (fun K5 => bindS (F26 N ) (fun (y6 : Bool) => br y6
 (br (decide (y1.2.1 = 0))
 (br (decide ((↑y2.2.2.length : Int) = 3))
 (bindS (F35 N x2 (i64.wrap (8 * y3))) (fun (y7 : Int) => br (decide (y2.1.2.1.getD (3) 0 = y7))
 (br (decide ((↑y2.2.1.length : Int) = 64))
 (K5 (decide (y2.1.2.2 = 2)))
 (K5 false))
 (K5 false)))
 (K5 false))
 (K5 false))
 (K5 false)))))))))
theorem e11 : g11' = R11 g24' g26' g31' g34' g35' := by kernel_rfl
def F11 : Nat → Int → Int → Int → Option Bool := R11 F24 F26 F31 F34 F35
theorem F11_eq : g11' = F11 := by
  rw [e11, F24_eq, F26_eq, F31_eq, F34_eq, F35_eq, F11]
end
end Go.Proofs.YtkcfkegkhopakaaGreatDoor
