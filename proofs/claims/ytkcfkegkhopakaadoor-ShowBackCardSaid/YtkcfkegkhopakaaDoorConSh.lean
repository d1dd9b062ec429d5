/- Contracts of functions, by their bodies and shapes. No condition. -/
import Derived.Test.YtkcfkegkhopakaaDoorShX3
import Derived.Test.YtkcfkegkhopakaaDoorKnSh
import Derived.KernelRfl
namespace Go.Proofs.YtkcfkegkhopakaaDoor
open Go Go.Ev Go.Sh
set_option maxRecDepth 100000
set_option linter.unusedVariables false
abbrev D2Sh : Ty := .pair .str (.pair .bool .bool)
abbrev D1Sh : Ty := .pair iI (.pair iI iI)
abbrev D0Sh : Ty := .pair iI (.pair iI (.pair iI (.pair iI (.pair iI (.pair .bool (.pair .bool (.pair iI iI)))))))
def K0Sh : CTab := fun _ _ => none
theorem gk0Sh : True ∧ GoodK TBSh K0Sh := ⟨trivial, fun _ _ _ h => by cases h⟩
noncomputable section
def s5 : Sg := sgB
def f5 (N : Nat) (x : s5.inp) : Option s5.res := some true
def K5 : CTab := kc 5 ⟨s5, f5⟩ K0Sh
theorem gk5 : GoodC TBSh 5 ⟨s5, f5⟩ ∧ GoodK TBSh K5 := mkT rfl gk0Sh.2
def s13 : Sg := ⟨[tS, tI, tI], [], ⟨[(0, (.tup [tI, (.ty .err)]))], [], [], []⟩⟩
def f13 : Nat → s13.inp → Option s13.res := pintS
def K13 : CTab := kc 13 ⟨s13, f13⟩ K5
theorem gk13 : GoodC TBSh 13 ⟨s13, f13⟩ ∧ GoodK TBSh K13 := mkL (good_pint (fun s b z h => by show (bif (decide ((s : List UInt8).length ≤ 281474976710656) && decide ((b : Int) = 10) && decide ((z : Int) = 64)) then some (pintF s) else none) = _; rw [h]; rfl)) (by decide) gk5.2
def s14 : Sg := ⟨[tI, tI], [], ⟨[(0, tS)], [], [], []⟩⟩
def f14 : Nat → s14.inp → Option s14.res := fintS
def K14 : CTab := kc 14 ⟨s14, f14⟩ K13
theorem gk14 : GoodC TBSh 14 ⟨s14, f14⟩ ∧ GoodK TBSh K14 := mkL (good_fint (fun n b h => by show (bif (i64B n && decide ((b : Int) = 10)) then some (AV.str (itoaF n)) else none) = _; rw [h]; rfl)) (by decide) gk13.2
def s6 : Sg := ⟨[tS], [], ⟨[(0, (.tup [tI, tB]))], [], [], []⟩⟩
def f6 := fnx TBSh K14 6 ⟨lkp [], lkp [(3, ⟨[(18, tB)], [], [], []⟩)]⟩ s6
def K6 : CTab := kc 6 ⟨s6, f6⟩ K14
theorem gk6 : GoodC TBSh 6 ⟨s6, f6⟩ ∧ GoodK TBSh K6 := mk2 ⟨fun _ => rfl, rfl⟩ gk14.2 (by kernel_rfl)
def s7 : Sg := ⟨[tS], [], ⟨[(0, (.tup [tI, tB]))], [], [], []⟩⟩
def f7 := fnx TBSh K6 7 ⟨lkp [], lkp [(3, ⟨[(4, tS), (5, tB)], [], [], []⟩), (4, ⟨[(16, tB)], [], [], []⟩), (8, ⟨[(39, tB)], [], [], []⟩), (15, ⟨[(6, tU), (7, tI)], [], [], []⟩), (22, ⟨[(55, tB)], [], [], []⟩), (26, ⟨[(73, tB)], [], [], []⟩)]⟩ s7
def K7 : CTab := kc 7 ⟨s7, f7⟩ K6
theorem gk7 : GoodC TBSh 7 ⟨s7, f7⟩ ∧ GoodK TBSh K7 := mk2 ⟨fun _ => rfl, rfl⟩ gk6.2 (by kernel_rfl)
def s45 : Sg := ⟨[tS, tS], [], ⟨[(0, tB)], [], [], []⟩⟩
def f45 := fnx TBSh K7 45 ⟨lkp [], lkp [(1, ⟨[(4, tB)], [], [], []⟩)]⟩ s45
def K45 : CTab := kc 45 ⟨s45, f45⟩ K7
theorem gk45 : GoodC TBSh 45 ⟨s45, f45⟩ ∧ GoodK TBSh K45 := mk2 ⟨fun _ => rfl, rfl⟩ gk7.2 (by kernel_rfl)
def s22 : Sg := ⟨[tS, tS], [], ⟨[(0, (.tup [tS, tB]))], [], [], []⟩⟩
def f22 := fnx TBSh K45 22 ⟨lkp [], lkp []⟩ s22
def K22 : CTab := kc 22 ⟨s22, f22⟩ K45
theorem gk22 : GoodC TBSh 22 ⟨s22, f22⟩ ∧ GoodK TBSh K22 := mk2 ⟨fun _ => rfl, rfl⟩ gk45.2 (by kernel_rfl)
def s15 : Sg := ⟨[tS, tS], [], ⟨[(0, (.tup [tS, tB]))], [], [], []⟩⟩
def f15 := fnx TBSh K22 15 ⟨lkp [], lkp []⟩ s15
def K15 : CTab := kc 15 ⟨s15, f15⟩ K22
theorem gk15 : GoodC TBSh 15 ⟨s15, f15⟩ ∧ GoodK TBSh K15 := mk2 ⟨fun _ => rfl, rfl⟩ gk22.2 (by kernel_rfl)
def s8 : Sg := ⟨[tS], [], ⟨[(0, (.tup [tI, tB]))], [], [], []⟩⟩
def f8 := fnx TBSh K15 8 ⟨lkp [], lkp [(4, ⟨[(31, tB)], [], [], []⟩)]⟩ s8
def K8 : CTab := kc 8 ⟨s8, f8⟩ K15
theorem gk8 : GoodC TBSh 8 ⟨s8, f8⟩ ∧ GoodK TBSh K8 := mk2 ⟨fun _ => rfl, rfl⟩ gk15.2 (by kernel_rfl)
def s9 : Sg := ⟨[tS], [], ⟨[(0, (.tup [tI, tB]))], [], [], []⟩⟩
def f9 := fnx TBSh K8 9 ⟨lkp [], lkp [(2, ⟨[(18, tB)], [], [], []⟩), (7, ⟨[(34, tB)], [], [], []⟩)]⟩ s9
def K9 : CTab := kc 9 ⟨s9, f9⟩ K8
theorem gk9 : GoodC TBSh 9 ⟨s9, f9⟩ ∧ GoodK TBSh K9 := mk2 ⟨fun _ => rfl, rfl⟩ gk8.2 (by kernel_rfl)
def s10 : Sg := ⟨[tI], [], ⟨[(0, tS)], [], [], []⟩⟩
def f10 := fnx TBSh K9 10 ⟨lkp [(15, (Hn.ty (.int .u8)))], lkp [(3, ⟨[(4, tU)], [], [], []⟩), (8, ⟨[(3, tS), (4, tU)], [], [], []⟩), (14, ⟨[(3, tS)], [], [], []⟩)]⟩ s10
def K10 : CTab := kc 10 ⟨s10, f10⟩ K9
theorem gk10 : GoodC TBSh 10 ⟨s10, f10⟩ ∧ GoodK TBSh K10 := mk2 ⟨fun _ => rfl, rfl⟩ gk9.2 (by kernel_rfl)
def s3 : Sg := ⟨[tS, tI], [], ⟨[(0, tB)], [], [], []⟩⟩
def f3 := fnx TBSh K10 3 ⟨lkp [], lkp [(14, ⟨[(4, tB)], [], [], []⟩)]⟩ s3
def K3 : CTab := kc 3 ⟨s3, f3⟩ K10
theorem gk3 : GoodC TBSh 3 ⟨s3, f3⟩ ∧ GoodK TBSh K3 := mk2 ⟨fun _ => rfl, rfl⟩ gk10.2 (by kernel_rfl)
def s46 : Sg := ⟨[tI], [], ⟨[(0, tI)], [], [], []⟩⟩
def f46 := fnx TBSh K3 46 ⟨lkp [], lkp [(4, ⟨[(4, tB)], [], [], []⟩), (11, ⟨[(8, tB)], [], [], []⟩)]⟩ s46
def K46 : CTab := kc 46 ⟨s46, f46⟩ K3
theorem gk46 : GoodC TBSh 46 ⟨s46, f46⟩ ∧ GoodK TBSh K46 := mk2 ⟨fun _ => rfl, rfl⟩ gk3.2 (by kernel_rfl)
def s24 : Sg := ⟨[tI], [], ⟨[(0, tI)], [], [], []⟩⟩
def f24 := fnx TBSh K46 24 ⟨lkp [], lkp [(3, ⟨[(3, tB)], [], [], []⟩)]⟩ s24
def K24 : CTab := kc 24 ⟨s24, f24⟩ K46
theorem gk24 : GoodC TBSh 24 ⟨s24, f24⟩ ∧ GoodK TBSh K24 := mk2 ⟨fun _ => rfl, rfl⟩ gk46.2 (by kernel_rfl)
def s47 : Sg := ⟨[tI], [], ⟨[(0, tI)], [], [], []⟩⟩
def f47 := fnx TBSh K24 47 ⟨lkp [], lkp [(3, ⟨[], [], [], []⟩)]⟩ s47
def K47 : CTab := kc 47 ⟨s47, f47⟩ K24
theorem gk47 : GoodC TBSh 47 ⟨s47, f47⟩ ∧ GoodK TBSh K47 := mk2 ⟨fun _ => rfl, rfl⟩ gk24.2 (by kernel_rfl)
def s87 : Sg := ⟨[], [], ⟨[(0, (.segs [tI, tI, .nils, tI, tI, (.sla 0 .yes), tI, tI, (.sla 1 .yes), tI, tI, (.sla 2 .yes), tI, tI, (.sla 3 .yes), tI, tI, (.sla 4 .yes)]))], [], [], [⟨true, (.many D1Sh)⟩, ⟨true, (.many D1Sh)⟩, ⟨true, (.many D1Sh)⟩, ⟨true, (.many D1Sh)⟩, ⟨true, (.many D1Sh)⟩]⟩⟩
def f87 := fnx TBSh K47 87 ⟨lkp [(1, (Hn.ty D1Sh)), (2, (Hn.ty D1Sh)), (3, (.parts [some iI, some iI, none])), (4, (Hn.ty D1Sh)), (5, (Hn.ty D1Sh)), (6, (Hn.ty D1Sh)), (7, (.parts [some iI, some iI, none])), (8, (Hn.ty D1Sh)), (9, (Hn.ty D1Sh)), (10, (Hn.ty D1Sh)), (11, (Hn.ty D1Sh)), (12, (Hn.ty D1Sh)), (13, (.parts [some iI, some iI, none])), (14, (Hn.ty D1Sh)), (15, (Hn.ty D1Sh)), (16, (.parts [some iI, some iI, none])), (17, (Hn.ty D1Sh)), (18, (Hn.ty D1Sh)), (19, (Hn.ty D1Sh)), (20, (Hn.ty D1Sh)), (21, (Hn.ty D1Sh)), (22, (.parts [some iI, some iI, none]))], lkp []⟩ s87
def K87 : CTab := kc 87 ⟨s87, f87⟩ K47
theorem gk87 : GoodC TBSh 87 ⟨s87, f87⟩ ∧ GoodK TBSh K87 := mk0 ⟨fun _ => rfl, rfl⟩ gk47.2 (by kernel_rfl)
def s73 : Sg := ⟨[tI], [], ⟨[(0, (.tup [(.segs [tI, tI, (.sla 0 .yes)]), tB]))], [], [], [⟨true, (.many D1Sh)⟩]⟩⟩
def f73 := fnx TBSh K87 73 ⟨lkp [(2, (.parts [some iI, some iI, none])), (10, (.parts [some iI, some iI, none]))], lkp [(2, ⟨[(9, tB)], [], [], []⟩), (5, ⟨[(3, tB)], [(0, (.one (.segs [tI, tI, (.sla 1 .yes)])))], [], [⟨true, (.many D1Sh)⟩]⟩)]⟩ s73
def K73 : CTab := kc 73 ⟨s73, f73⟩ K87
theorem gk73 : GoodC TBSh 73 ⟨s73, f73⟩ ∧ GoodK TBSh K73 := mk0 ⟨fun _ => rfl, rfl⟩ gk87.2 (by kernel_rfl)
def s75 : Sg := ⟨[tU, tI], [], ⟨[(0, tU)], [], [], []⟩⟩
def f75 := fnx TBSh K73 75 ⟨lkp [], lkp []⟩ s75
def K75 : CTab := kc 75 ⟨s75, f75⟩ K73
theorem gk75 : GoodC TBSh 75 ⟨s75, f75⟩ ∧ GoodK TBSh K75 := mk2 ⟨fun _ => rfl, rfl⟩ gk73.2 (by kernel_rfl)
def s74 : Sg := ⟨[tU, tI], [], ⟨[(0, tU)], [], [], []⟩⟩
def f74 := fnx TBSh K75 74 ⟨lkp [], lkp [(2, ⟨[(10, tB)], [], [], []⟩)]⟩ s74
def K74 : CTab := kc 74 ⟨s74, f74⟩ K75
theorem gk74 : GoodC TBSh 74 ⟨s74, f74⟩ ∧ GoodK TBSh K74 := mk2 ⟨fun _ => rfl, rfl⟩ gk75.2 (by kernel_rfl)
def s48 : Sg := ⟨[tI, tI], [], ⟨[(0, (.tup [(.ty (.int .u32)), tB]))], [], [], []⟩⟩
def f48 := fnx TBSh K74 48 ⟨lkp [(6, (.parts [some iI, some iI, none])), (10, (Hn.ty D1Sh))], lkp [(3, ⟨[(35, tB)], [], [], []⟩), (10, ⟨[(8, (.ty (.int .u32))), (39, tI)], [], [], []⟩)]⟩ s48
def K48 : CTab := kc 48 ⟨s48, f48⟩ K74
theorem gk48 : GoodC TBSh 48 ⟨s48, f48⟩ ∧ GoodK TBSh K48 := mk2 ⟨fun _ => rfl, rfl⟩ gk74.2 (by kernel_rfl)
def s23 : Sg := ⟨[(.ty D0Sh)], [], ⟨[(0, (.tup [(.ty (.int .u32)), tB]))], [], [], []⟩⟩
def f23 := fnx TBSh K48 23 ⟨lkp [], lkp [(5, ⟨[(2, (.ty (.int .u32))), (3, tB)], [], [], []⟩)]⟩ s23
def K23 : CTab := kc 23 ⟨s23, f23⟩ K48
theorem gk23 : GoodC TBSh 23 ⟨s23, f23⟩ ∧ GoodK TBSh K23 := mk2 ⟨fun _ => rfl, rfl⟩ gk48.2 (by kernel_rfl)
def s76 : Sg := ⟨[tI], [], ⟨[(0, tI)], [], [], []⟩⟩
def f76 := fnx TBSh K23 76 ⟨lkp [], lkp [(2, ⟨[(8, tB)], [], [], []⟩)]⟩ s76
def K76 : CTab := kc 76 ⟨s76, f76⟩ K23
theorem gk76 : GoodC TBSh 76 ⟨s76, f76⟩ ∧ GoodK TBSh K76 := mk2 ⟨fun _ => rfl, rfl⟩ gk23.2 (by kernel_rfl)
def s49 : Sg := ⟨[(.ty D0Sh)], [], ⟨[(0, tI)], [], [], []⟩⟩
def f49 := fnx TBSh K76 49 ⟨lkp [], lkp [(4, ⟨[(6, tB)], [], [], []⟩)]⟩ s49
def K49 : CTab := kc 49 ⟨s49, f49⟩ K76
theorem gk49 : GoodC TBSh 49 ⟨s49, f49⟩ ∧ GoodK TBSh K49 := mk2 ⟨fun _ => rfl, rfl⟩ gk76.2 (by kernel_rfl)
def s50 : Sg := ⟨[(.ty D0Sh)], [], ⟨[(0, (.sla 0 .yes))], [], [], [⟨true, (.many iI)⟩]⟩⟩
def f50 := fnx TBSh K49 50 ⟨lkp [(22, (Hn.ty iI)), (30, (Hn.ty iI)), (39, (Hn.ty iI)), (50, (Hn.ty iI))], lkp [(4, ⟨[(3, (.sla 1 .yes))], [], [], [⟨true, (.many iI)⟩]⟩), (5, ⟨[(10, tB)], [], [], []⟩), (15, ⟨[(23, tB)], [], [], []⟩), (29, ⟨[(4, (.sla 2 .yes)), (42, tI)], [], [], [⟨true, (.many iI)⟩]⟩), (34, ⟨[(4, (.sla 3 .yes))], [], [2], [⟨true, (.many iI)⟩]⟩)]⟩ s50
def K50 : CTab := kc 50 ⟨s50, f50⟩ K49
theorem gk50 : GoodC TBSh 50 ⟨s50, f50⟩ ∧ GoodK TBSh K50 := mk3 ⟨fun _ => rfl, rfl⟩ gk49.2 (by kernel_rfl)
def s25 : Sg := ⟨[(.ty D0Sh)], [], ⟨[(0, (.ty D0Sh))], [], [], []⟩⟩
def f25 := fnx TBSh K50 25 ⟨lkp [(2, (Hn.ty D0Sh)), (3, (Hn.ty D0Sh)), (4, (Hn.ty (.arr 4 .bool))), (9, (Hn.ty D0Sh)), (14, (Hn.ty (.arr 4 .bool)))], lkp [(2, ⟨[], [(0, (.one (.segs [(.ty D0Sh)])))], [], []⟩), (9, ⟨[(18, tI)], [(3, (.one (.ty (.arr 4 .bool))))], [], []⟩), (16, ⟨[], [(0, (.one (.segs [(.ty D0Sh)])))], [], []⟩), (19, ⟨[], [(0, (.one (.segs [(.ty D0Sh)])))], [], []⟩)]⟩ s25
def K25 : CTab := kc 25 ⟨s25, f25⟩ K50
theorem gk25 : GoodC TBSh 25 ⟨s25, f25⟩ ∧ GoodK TBSh K25 := mk2 ⟨fun _ => rfl, rfl⟩ gk50.2 (by kernel_rfl)
def s16 : Sg := ⟨[(.ty D0Sh)], [], ⟨[(0, tB)], [], [], []⟩⟩
def f16 := fnx TBSh K25 16 ⟨lkp [(75, (Hn.ty (.arr 3 iI)))], lkp [(5, ⟨[(16, tB)], [], [], []⟩), (16, ⟨[(2, tB)], [], [], []⟩), (19, ⟨[(2, tB)], [], [], []⟩), (23, ⟨[(76, tI)], [], [], []⟩), (30, ⟨[(84, tB)], [], [], []⟩), (33, ⟨[(2, tB)], [], [], []⟩)]⟩ s16
def K16 : CTab := kc 16 ⟨s16, f16⟩ K25
theorem gk16 : GoodC TBSh 16 ⟨s16, f16⟩ ∧ GoodK TBSh K16 := mk2 ⟨fun _ => rfl, rfl⟩ gk25.2 (by kernel_rfl)
def s67 : Sg := ⟨[tI], [], ⟨[(0, tS)], [], [], []⟩⟩
def f67 : Nat → s67.inp → Option s67.res := itoaS
def K67 : CTab := kc 67 ⟨s67, f67⟩ K16
theorem gk67 : GoodC TBSh 67 ⟨s67, f67⟩ ∧ GoodK TBSh K67 := mkL (good_itoa (fun n h => by show (bif i64B n then some (AV.str (itoaF n)) else none) = _; rw [h]; rfl)) (by decide) gk16.2
def s51 : Sg := ⟨[tI], [], ⟨[(0, tS)], [], [], []⟩⟩
def f51 := fnx TBSh K67 51 ⟨lkp [], lkp []⟩ s51
def K51 : CTab := kc 51 ⟨s51, f51⟩ K67
theorem gk51 : GoodC TBSh 51 ⟨s51, f51⟩ ∧ GoodK TBSh K51 := mk2 ⟨fun _ => rfl, rfl⟩ gk67.2 (by kernel_rfl)
def s52 : Sg := ⟨[tI], [], ⟨[(0, tS)], [], [], []⟩⟩
def f52 := fnx TBSh K51 52 ⟨lkp [], lkp [(5, ⟨[(3, tS), (5, tI)], [], [], []⟩), (10, ⟨[(3, tS)], [], [], []⟩)]⟩ s52
def K52 : CTab := kc 52 ⟨s52, f52⟩ K51
theorem gk52 : GoodC TBSh 52 ⟨s52, f52⟩ ∧ GoodK TBSh K52 := mk2 ⟨fun _ => rfl, rfl⟩ gk51.2 (by kernel_rfl)
def s26 : Sg := ⟨[(.ty D0Sh)], [], ⟨[(0, (.sla 0 .yes))], [], [], [⟨true, (.many .str)⟩]⟩⟩
def f26 := fnx TBSh K52 26 ⟨lkp [(16, (Hn.ty .str)), (26, (Hn.ty .str)), (34, (Hn.ty .str)), (44, (Hn.ty .str)), (54, (Hn.ty .str)), (67, (Hn.ty .str)), (80, (Hn.ty .str)), (92, (Hn.ty .str)), (104, (Hn.ty .str)), (115, (Hn.ty .str)), (130, (Hn.ty .str))], lkp [(4, ⟨[], [], [], []⟩), (38, ⟨[(116, tB)], [], [], []⟩)]⟩ s26
def K26 : CTab := kc 26 ⟨s26, f26⟩ K52
theorem gk26 : GoodC TBSh 26 ⟨s26, f26⟩ ∧ GoodK TBSh K26 := mk3 ⟨fun _ => rfl, rfl⟩ gk52.2 (by kernel_rfl)
def s77 : Sg := ⟨[], [], ⟨[(0, (.ty (.arr 76 .str)))], [], [], []⟩⟩
def f77 := fnx TBSh K26 77 ⟨lkp [(0, (Hn.ty (.arr 76 .str))), (1, (Hn.ty (.arr 76 .str)))], lkp []⟩ s77
def K77 : CTab := kc 77 ⟨s77, f77⟩ K26
theorem gk77 : GoodC TBSh 77 ⟨s77, f77⟩ ∧ GoodK TBSh K77 := mk2 ⟨fun _ => rfl, rfl⟩ gk26.2 (by kernel_rfl)
def s53 : Sg := ⟨[tI], [], ⟨[(0, tS)], [], [], []⟩⟩
def f53 := fnx TBSh K77 53 ⟨lkp [], lkp []⟩ s53
def K53 : CTab := kc 53 ⟨s53, f53⟩ K77
theorem gk53 : GoodC TBSh 53 ⟨s53, f53⟩ ∧ GoodK TBSh K53 := mk2 ⟨fun _ => rfl, rfl⟩ gk77.2 (by kernel_rfl)
def s27 : Sg := ⟨[(.ty D0Sh)], [], ⟨[(0, tS)], [], [], []⟩⟩
def f27 := fnx TBSh K53 27 ⟨lkp [], lkp [(4, ⟨[(7, tB)], [], [], []⟩)]⟩ s27
def K27 : CTab := kc 27 ⟨s27, f27⟩ K53
theorem gk27 : GoodC TBSh 27 ⟨s27, f27⟩ ∧ GoodK TBSh K27 := mk2 ⟨fun _ => rfl, rfl⟩ gk53.2 (by kernel_rfl)
def s28 : Sg := sgJ
def f28 : Nat → s28.inp → Option s28.res := joinS
def K28 : CTab := kc 28 ⟨s28, f28⟩ K27
theorem gk28 : GoodC TBSh 28 ⟨s28, f28⟩ ∧ GoodK TBSh K28 := mkL (good_join (fun _ => rfl) rfl) (by decide) gk27.2
def s17 : Sg := ⟨[(.ty D0Sh)], [], ⟨[(0, tS)], [], [], []⟩⟩
def f17 := fnx TBSh K28 17 ⟨lkp [], lkp []⟩ s17
def K17 : CTab := kc 17 ⟨s17, f17⟩ K28
theorem gk17 : GoodC TBSh 17 ⟨s17, f17⟩ ∧ GoodK TBSh K17 := mk2 ⟨fun _ => rfl, rfl⟩ gk28.2 (by kernel_rfl)
def s11 : Sg := ⟨[(.ty D0Sh)], [], ⟨[(0, (.tup [tS, tI]))], [], [], []⟩⟩
def f11 := fnx TBSh K17 11 ⟨lkp [], lkp []⟩ s11
def K11 : CTab := kc 11 ⟨s11, f11⟩ K17
theorem gk11 : GoodC TBSh 11 ⟨s11, f11⟩ ∧ GoodK TBSh K11 := mk2 ⟨fun _ => rfl, rfl⟩ gk17.2 (by kernel_rfl)
def s80 : Sg := ⟨[tS, tS], [], ⟨[(0, tI)], [], [], []⟩⟩
def f80 : Nat → s80.inp → Option s80.res := indexS
def K80 : CTab := kc 80 ⟨s80, f80⟩ K11
theorem gk80 : GoodC TBSh 80 ⟨s80, f80⟩ ∧ GoodK TBSh K80 := mkL (good_index (fun s t h => by show (bif decide ((s : List UInt8).length < 4294967281) then some (AV.int .i64 (idxF s t 0)) else none) = _; rw [h]; rfl)) (by decide) gk11.2
def s57 : Sg := ⟨[tS, tS], [], ⟨[(0, (.tup [tS, tS, tB]))], [], [], []⟩⟩
def f57 := fnx TBSh K80 57 ⟨lkp [], lkp []⟩ s57
def K57 : CTab := kc 57 ⟨s57, f57⟩ K80
theorem gk57 : GoodC TBSh 57 ⟨s57, f57⟩ ∧ GoodK TBSh K57 := mk2 ⟨fun _ => rfl, rfl⟩ gk80.2 (by kernel_rfl)
def s29 : Sg := ⟨[tS, tS], [], ⟨[(0, (.tup [tS, tS, tB]))], [], [], []⟩⟩
def f29 := fnx TBSh K57 29 ⟨lkp [], lkp []⟩ s29
def K29 : CTab := kc 29 ⟨s29, f29⟩ K57
theorem gk29 : GoodC TBSh 29 ⟨s29, f29⟩ ∧ GoodK TBSh K29 := mk2 ⟨fun _ => rfl, rfl⟩ gk57.2 (by kernel_rfl)
def s82 : Sg := ⟨[tS, tS], [], ⟨[(0, tB)], [], [], []⟩⟩
def f82 := fnx TBSh K29 82 ⟨lkp [], lkp [(1, ⟨[(4, tB)], [], [], []⟩)]⟩ s82
def K82 : CTab := kc 82 ⟨s82, f82⟩ K29
theorem gk82 : GoodC TBSh 82 ⟨s82, f82⟩ ∧ GoodK TBSh K82 := mk2 ⟨fun _ => rfl, rfl⟩ gk29.2 (by kernel_rfl)
def s81 : Sg := ⟨[tS, tS], [], ⟨[(0, (.tup [tS, tB]))], [], [], []⟩⟩
def f81 := fnx TBSh K82 81 ⟨lkp [], lkp []⟩ s81
def K81 : CTab := kc 81 ⟨s81, f81⟩ K82
theorem gk81 : GoodC TBSh 81 ⟨s81, f81⟩ ∧ GoodK TBSh K81 := mk2 ⟨fun _ => rfl, rfl⟩ gk82.2 (by kernel_rfl)
def s58 : Sg := ⟨[tS, tS], [], ⟨[(0, (.tup [tS, tB]))], [], [], []⟩⟩
def f58 := fnx TBSh K81 58 ⟨lkp [], lkp []⟩ s58
def K58 : CTab := kc 58 ⟨s58, f58⟩ K81
theorem gk58 : GoodC TBSh 58 ⟨s58, f58⟩ ∧ GoodK TBSh K58 := mk2 ⟨fun _ => rfl, rfl⟩ gk81.2 (by kernel_rfl)
def s59 : Sg := ⟨[tS], [], ⟨[(0, tI)], [], [], []⟩⟩
def f59 := fnx TBSh K58 59 ⟨lkp [], lkp [(4, ⟨[(6, tI)], [], [], []⟩)]⟩ s59
def K59 : CTab := kc 59 ⟨s59, f59⟩ K58
theorem gk59 : GoodC TBSh 59 ⟨s59, f59⟩ ∧ GoodK TBSh K59 := mk2 ⟨fun _ => rfl, rfl⟩ gk58.2 (by kernel_rfl)
def s30 : Sg := ⟨[tS], [], ⟨[(0, (.ty D0Sh))], [], [], []⟩⟩
def f30 := fnx TBSh K59 30 ⟨lkp [(2, (Hn.ty D0Sh)), (4, (Hn.ty D2Sh)), (7, (Hn.ty D2Sh)), (8, (Hn.ty D2Sh)), (9, (Hn.ty D2Sh)), (10, (Hn.ty (.arr 3 D2Sh))), (28, (Hn.ty D0Sh)), (32, (Hn.ty D0Sh))], lkp [(4, ⟨[(11, tI)], [], [], []⟩)]⟩ s30
def K30 : CTab := kc 30 ⟨s30, f30⟩ K59
theorem gk30 : GoodC TBSh 30 ⟨s30, f30⟩ ∧ GoodK TBSh K30 := mk2 ⟨fun _ => rfl, rfl⟩ gk59.2 (by kernel_rfl)
def s61 : Sg := ⟨[tS, tS], [], ⟨[(0, tS)], [], [], []⟩⟩
def f61 := fnx TBSh K30 61 ⟨lkp [], lkp []⟩ s61
def K61 : CTab := kc 61 ⟨s61, f61⟩ K30
theorem gk61 : GoodC TBSh 61 ⟨s61, f61⟩ ∧ GoodK TBSh K61 := mk2 ⟨fun _ => rfl, rfl⟩ gk30.2 (by kernel_rfl)
def s32 : Sg := ⟨[tS, tS], [], ⟨[(0, tS)], [], [], []⟩⟩
def f32 := fnx TBSh K61 32 ⟨lkp [], lkp []⟩ s32
def K32 : CTab := kc 32 ⟨s32, f32⟩ K61
theorem gk32 : GoodC TBSh 32 ⟨s32, f32⟩ ∧ GoodK TBSh K32 := mk2 ⟨fun _ => rfl, rfl⟩ gk61.2 (by kernel_rfl)
def s60 : Sg := ⟨[tS, tS], [], ⟨[(0, tB)], [], [], []⟩⟩
def f60 := fnx TBSh K32 60 ⟨lkp [], lkp []⟩ s60
def K60 : CTab := kc 60 ⟨s60, f60⟩ K32
theorem gk60 : GoodC TBSh 60 ⟨s60, f60⟩ ∧ GoodK TBSh K60 := mk2 ⟨fun _ => rfl, rfl⟩ gk32.2 (by kernel_rfl)
def s31 : Sg := ⟨[tS], [], ⟨[(0, (.sla 0 .yes))], [], [], [⟨true, (.many .str)⟩]⟩⟩
def f31 := fnx TBSh K60 31 ⟨lkp [(21, (Hn.ty .str)), (33, (Hn.ty .str)), (47, (Hn.ty .str))], lkp [(6, ⟨[(3, (.sla 0 .yes))], [], [], [⟨true, (.many .str)⟩]⟩), (7, ⟨[(3, (.sla 0 .yes)), (4, tI), (5, tI)], [], [], [⟨true, (.many .str)⟩]⟩), (13, ⟨[(3, (.sla 1 .yes)), (4, tI)], [], [0], [⟨true, (.many .str)⟩]⟩)]⟩ s31
def K31 : CTab := kc 31 ⟨s31, f31⟩ K60
theorem gk31 : GoodC TBSh 31 ⟨s31, f31⟩ ∧ GoodK TBSh K31 := mk3 ⟨fun _ => rfl, rfl⟩ gk60.2 (by kernel_rfl)
def s33 : Sg := ⟨[tI, (.ptr 0)], [⟨false, (.one (.segs [(.sla 1 .any)]))⟩, ⟨false, (.many .str)⟩], ⟨[(0, tI)], [], [], []⟩⟩
def f33 := fnx TBSh K31 33 ⟨lkp [], lkp []⟩ s33
def K33 : CTab := kc 33 ⟨s33, f33⟩ K31
theorem gk33 : GoodC TBSh 33 ⟨s33, f33⟩ ∧ GoodK TBSh K33 := mk1 ⟨fun _ => rfl, rfl⟩ gk31.2 (by kernel_rfl)
def s34 : Sg := ⟨[tI, (.ptr 0)], [⟨false, (.one (.segs [(.sla 1 .any)]))⟩, ⟨false, (.many .str)⟩], ⟨[(0, tI)], [], [], []⟩⟩
def f34 := fnx TBSh K33 34 ⟨lkp [], lkp []⟩ s34
def K34 : CTab := kc 34 ⟨s34, f34⟩ K33
theorem gk34 : GoodC TBSh 34 ⟨s34, f34⟩ ∧ GoodK TBSh K34 := mk1 ⟨fun _ => rfl, rfl⟩ gk33.2 (by kernel_rfl)
def s83 : Sg := ⟨[tS, tS], [], ⟨[(0, tI)], [], [], []⟩⟩
def f83 := fnx TBSh K34 83 ⟨lkp [], lkp []⟩ s83
def K83 : CTab := kc 83 ⟨s83, f83⟩ K34
theorem gk83 : GoodC TBSh 83 ⟨s83, f83⟩ ∧ GoodK TBSh K83 := mk2 ⟨fun _ => rfl, rfl⟩ gk34.2 (by kernel_rfl)
def s62 : Sg := ⟨[tS, tS], [], ⟨[(0, tB)], [], [], []⟩⟩
def f62 := fnx TBSh K83 62 ⟨lkp [], lkp []⟩ s62
def K62 : CTab := kc 62 ⟨s62, f62⟩ K83
theorem gk62 : GoodC TBSh 62 ⟨s62, f62⟩ ∧ GoodK TBSh K62 := mk2 ⟨fun _ => rfl, rfl⟩ gk83.2 (by kernel_rfl)
def s35 : Sg := ⟨[tS], [], ⟨[(0, tI)], [], [], []⟩⟩
def f35 := fnx TBSh K62 35 ⟨lkp [], lkp [(5, ⟨[(3, tI), (5, tI)], [], [], []⟩), (10, ⟨[(3, tI)], [], [], []⟩)]⟩ s35
def K35 : CTab := kc 35 ⟨s35, f35⟩ K62
theorem gk35 : GoodC TBSh 35 ⟨s35, f35⟩ ∧ GoodK TBSh K35 := mk2 ⟨fun _ => rfl, rfl⟩ gk62.2 (by kernel_rfl)
def s18 : Sg := ⟨[tS], [], ⟨[(0, (.ty D0Sh))], [], [], []⟩⟩
def f18 := fnx TBSh K35 18 ⟨lkp [(2, (Hn.ty D0Sh)), (6, (Hn.ty D0Sh)), (26, (Hn.ty .str))], lkp [(3, ⟨[], [(1, (.one (.ty D0Sh)))], [], []⟩), (11, ⟨[], [(1, (.one (.ty D0Sh)))], [], []⟩), (35, ⟨[(136, tB)], [], [], []⟩)]⟩ s18
def K18 : CTab := kc 18 ⟨s18, f18⟩ K35
theorem gk18 : GoodC TBSh 18 ⟨s18, f18⟩ ∧ GoodK TBSh K18 := mk2 ⟨fun _ => rfl, rfl⟩ gk35.2 (by kernel_rfl)
def s12 : Sg := ⟨[tS], [], ⟨[(0, (.tup [(.ty D0Sh), tI]))], [], [], []⟩⟩
def f12 := fnx TBSh K18 12 ⟨lkp [(2, (Hn.ty D0Sh)), (4, (Hn.ty D0Sh)), (16, (Hn.ty D0Sh))], lkp [(3, ⟨[(15, tB)], [], [], []⟩)]⟩ s12
def K12 : CTab := kc 12 ⟨s12, f12⟩ K18
theorem gk12 : GoodC TBSh 12 ⟨s12, f12⟩ ∧ GoodK TBSh K12 := mk2 ⟨fun _ => rfl, rfl⟩ gk18.2 (by kernel_rfl)
def s4 : Sg := ⟨[(.ty D0Sh), (.ty D0Sh), tS], [], ⟨[(0, tB)], [], [], []⟩⟩
def f4 := fnx TBSh K12 4 ⟨lkp [(9, (Hn.ty D0Sh)), (13, (Hn.ty D0Sh))], lkp [(10, ⟨[], [], [], []⟩), (14, ⟨[(41, tB)], [], [], []⟩), (19, ⟨[(61, tB)], [], [], []⟩), (28, ⟨[(6, tB)], [], [], []⟩)]⟩ s4
def K4 : CTab := kc 4 ⟨s4, f4⟩ K12
theorem gk4 : GoodC TBSh 4 ⟨s4, f4⟩ ∧ GoodK TBSh K4 := mk2 ⟨fun _ => rfl, rfl⟩ gk12.2 (by kernel_rfl)
end
end Go.Proofs.YtkcfkegkhopakaaDoor
