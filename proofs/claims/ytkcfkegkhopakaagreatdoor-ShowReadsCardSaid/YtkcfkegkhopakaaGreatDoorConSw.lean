/- Contracts of functions, by their bodies and shapes. No condition. -/
import Derived.Test.YtkcfkegkhopakaaGreatDoorShX3
import Derived.Test.YtkcfkegkhopakaaGreatDoorKnSw
import Derived.KernelRfl
namespace Go.Proofs.YtkcfkegkhopakaaGreatDoor
open Go Go.Ev Go.Sh
set_option maxRecDepth 100000
set_option linter.unusedVariables false
abbrev D5Sw : Ty := .arr 8 iI
abbrev D4Sw : Ty := .arr 32 iI
abbrev D3Sw : Ty := .pair .str (.pair .bool .bool)
abbrev D2Sw : Ty := .pair iI (.pair iI iI)
abbrev D1Sw : Ty := .pair (.int .u32) (.pair iI (.pair iI (.pair iI (.pair (.int .u32) (.int .u32)))))
abbrev D0Sw : Ty := .pair iI (.pair iI (.pair iI (.pair iI (.pair iI (.pair .bool (.pair .bool (.pair iI iI)))))))
def K0Sw : CTab := fun _ _ => none
theorem gk0Sw : True ∧ GoodK TBSw K0Sw := ⟨trivial, fun _ _ _ h => by cases h⟩
noncomputable section
def s12 : Sg := sgB
def f12 (N : Nat) (x : s12.inp) : Option s12.res := some true
def K12 : CTab := kc 12 ⟨s12, f12⟩ K0Sw
theorem gk12 : GoodC TBSw 12 ⟨s12, f12⟩ ∧ GoodK TBSw K12 := mkT rfl gk0Sw.2
def s143 : Sg := ⟨[tI], [], ⟨[(0, tI)], [], [], []⟩⟩
def f143 := fnx TBSw K12 143 ⟨lkp [], lkp [(4, ⟨[(4, tB)], [], [], []⟩), (11, ⟨[(8, tB)], [], [], []⟩)]⟩ s143
def K143 : CTab := kc 143 ⟨s143, f143⟩ K12
theorem gk143 : GoodC TBSw 143 ⟨s143, f143⟩ ∧ GoodK TBSw K143 := mk2 ⟨fun _ => rfl, rfl⟩ gk12.2 (by kernel_rfl)
def s72 : Sg := ⟨[tI], [], ⟨[(0, tI)], [], [], []⟩⟩
def f72 := fnx TBSw K143 72 ⟨lkp [], lkp [(3, ⟨[(3, tB)], [], [], []⟩)]⟩ s72
def K72 : CTab := kc 72 ⟨s72, f72⟩ K143
theorem gk72 : GoodC TBSw 72 ⟨s72, f72⟩ ∧ GoodK TBSw K72 := mk2 ⟨fun _ => rfl, rfl⟩ gk143.2 (by kernel_rfl)
def s144 : Sg := ⟨[tI], [], ⟨[(0, tI)], [], [], []⟩⟩
def f144 := fnx TBSw K72 144 ⟨lkp [], lkp [(3, ⟨[], [], [], []⟩)]⟩ s144
def K144 : CTab := kc 144 ⟨s144, f144⟩ K72
theorem gk144 : GoodC TBSw 144 ⟨s144, f144⟩ ∧ GoodK TBSw K144 := mk2 ⟨fun _ => rfl, rfl⟩ gk72.2 (by kernel_rfl)
def s216 : Sg := ⟨[], [], ⟨[(0, (.segs [tI, tI, .nils, tI, tI, (.sla 0 .yes), tI, tI, (.sla 1 .yes), tI, tI, (.sla 2 .yes), tI, tI, (.sla 3 .yes), tI, tI, (.sla 4 .yes)]))], [], [], [⟨true, (.many D2Sw)⟩, ⟨true, (.many D2Sw)⟩, ⟨true, (.many D2Sw)⟩, ⟨true, (.many D2Sw)⟩, ⟨true, (.many D2Sw)⟩]⟩⟩
def f216 := fnx TBSw K144 216 ⟨lkp [(1, (Hn.ty D2Sw)), (2, (Hn.ty D2Sw)), (3, (.parts [some iI, some iI, none])), (4, (Hn.ty D2Sw)), (5, (Hn.ty D2Sw)), (6, (Hn.ty D2Sw)), (7, (.parts [some iI, some iI, none])), (8, (Hn.ty D2Sw)), (9, (Hn.ty D2Sw)), (10, (Hn.ty D2Sw)), (11, (Hn.ty D2Sw)), (12, (Hn.ty D2Sw)), (13, (.parts [some iI, some iI, none])), (14, (Hn.ty D2Sw)), (15, (Hn.ty D2Sw)), (16, (.parts [some iI, some iI, none])), (17, (Hn.ty D2Sw)), (18, (Hn.ty D2Sw)), (19, (Hn.ty D2Sw)), (20, (Hn.ty D2Sw)), (21, (Hn.ty D2Sw)), (22, (.parts [some iI, some iI, none]))], lkp []⟩ s216
def K216 : CTab := kc 216 ⟨s216, f216⟩ K144
theorem gk216 : GoodC TBSw 216 ⟨s216, f216⟩ ∧ GoodK TBSw K216 := mk0 ⟨fun _ => rfl, rfl⟩ gk144.2 (by kernel_rfl)
def s187 : Sg := ⟨[tI], [], ⟨[(0, (.tup [(.segs [tI, tI, (.sla 0 .yes)]), tB]))], [], [], [⟨true, (.many D2Sw)⟩]⟩⟩
def f187 := fnx TBSw K216 187 ⟨lkp [(2, (.parts [some iI, some iI, none])), (10, (.parts [some iI, some iI, none]))], lkp [(2, ⟨[(9, tB)], [], [], []⟩), (5, ⟨[(3, tB)], [(0, (.one (.segs [tI, tI, (.sla 1 .yes)])))], [], [⟨true, (.many D2Sw)⟩]⟩)]⟩ s187
def K187 : CTab := kc 187 ⟨s187, f187⟩ K216
theorem gk187 : GoodC TBSw 187 ⟨s187, f187⟩ ∧ GoodK TBSw K187 := mk0 ⟨fun _ => rfl, rfl⟩ gk216.2 (by kernel_rfl)
def s70 : Sg := ⟨[tU, tI], [], ⟨[(0, tU)], [], [], []⟩⟩
def f70 := fnx TBSw K187 70 ⟨lkp [], lkp []⟩ s70
def K70 : CTab := kc 70 ⟨s70, f70⟩ K187
theorem gk70 : GoodC TBSw 70 ⟨s70, f70⟩ ∧ GoodK TBSw K70 := mk2 ⟨fun _ => rfl, rfl⟩ gk187.2 (by kernel_rfl)
def s127 : Sg := ⟨[tU, tI], [], ⟨[(0, tU)], [], [], []⟩⟩
def f127 := fnx TBSw K70 127 ⟨lkp [], lkp [(2, ⟨[(10, tB)], [], [], []⟩)]⟩ s127
def K127 : CTab := kc 127 ⟨s127, f127⟩ K70
theorem gk127 : GoodC TBSw 127 ⟨s127, f127⟩ ∧ GoodK TBSw K127 := mk2 ⟨fun _ => rfl, rfl⟩ gk70.2 (by kernel_rfl)
def s145 : Sg := ⟨[tI, tI], [], ⟨[(0, (.tup [(.ty (.int .u32)), tB]))], [], [], []⟩⟩
def f145 := fnx TBSw K127 145 ⟨lkp [(6, (.parts [some iI, some iI, none])), (10, (Hn.ty D2Sw))], lkp [(3, ⟨[(35, tB)], [], [], []⟩), (10, ⟨[(8, (.ty (.int .u32))), (39, tI)], [], [], []⟩)]⟩ s145
def K145 : CTab := kc 145 ⟨s145, f145⟩ K127
theorem gk145 : GoodC TBSw 145 ⟨s145, f145⟩ ∧ GoodK TBSw K145 := mk2 ⟨fun _ => rfl, rfl⟩ gk127.2 (by kernel_rfl)
def s91 : Sg := ⟨[(.ty D0Sw)], [], ⟨[(0, (.tup [(.ty (.int .u32)), tB]))], [], [], []⟩⟩
def f91 := fnx TBSw K145 91 ⟨lkp [], lkp [(5, ⟨[(2, (.ty (.int .u32))), (3, tB)], [], [], []⟩)]⟩ s91
def K91 : CTab := kc 91 ⟨s91, f91⟩ K145
theorem gk91 : GoodC TBSw 91 ⟨s91, f91⟩ ∧ GoodK TBSw K91 := mk2 ⟨fun _ => rfl, rfl⟩ gk145.2 (by kernel_rfl)
def s129 : Sg := ⟨[tI], [], ⟨[(0, tI)], [], [], []⟩⟩
def f129 := fnx TBSw K91 129 ⟨lkp [], lkp [(2, ⟨[(8, tB)], [], [], []⟩)]⟩ s129
def K129 : CTab := kc 129 ⟨s129, f129⟩ K91
theorem gk129 : GoodC TBSw 129 ⟨s129, f129⟩ ∧ GoodK TBSw K129 := mk2 ⟨fun _ => rfl, rfl⟩ gk91.2 (by kernel_rfl)
def s76 : Sg := ⟨[(.ty D0Sw)], [], ⟨[(0, tI)], [], [], []⟩⟩
def f76 := fnx TBSw K129 76 ⟨lkp [], lkp [(4, ⟨[(6, tB)], [], [], []⟩)]⟩ s76
def K76 : CTab := kc 76 ⟨s76, f76⟩ K129
theorem gk76 : GoodC TBSw 76 ⟨s76, f76⟩ ∧ GoodK TBSw K76 := mk2 ⟨fun _ => rfl, rfl⟩ gk129.2 (by kernel_rfl)
def s146 : Sg := ⟨[(.ty D0Sw)], [], ⟨[(0, (.sla 0 .yes))], [], [], [⟨true, (.many iI)⟩]⟩⟩
def f146 := fnx TBSw K76 146 ⟨lkp [(22, (Hn.ty iI)), (30, (Hn.ty iI)), (39, (Hn.ty iI)), (50, (Hn.ty iI))], lkp [(4, ⟨[(3, (.sla 1 .yes))], [], [], [⟨true, (.many iI)⟩]⟩), (5, ⟨[(10, tB)], [], [], []⟩), (15, ⟨[(23, tB)], [], [], []⟩), (29, ⟨[(4, (.sla 2 .yes)), (42, tI)], [], [], [⟨true, (.many iI)⟩]⟩), (34, ⟨[(4, (.sla 3 .yes))], [], [2], [⟨true, (.many iI)⟩]⟩)]⟩ s146
def K146 : CTab := kc 146 ⟨s146, f146⟩ K76
theorem gk146 : GoodC TBSw 146 ⟨s146, f146⟩ ∧ GoodK TBSw K146 := mk3 ⟨fun _ => rfl, rfl⟩ gk76.2 (by kernel_rfl)
def s92 : Sg := ⟨[(.ty D0Sw)], [], ⟨[(0, (.ty D0Sw))], [], [], []⟩⟩
def f92 := fnx TBSw K146 92 ⟨lkp [(2, (Hn.ty D0Sw)), (3, (Hn.ty D0Sw)), (4, (Hn.ty (.arr 4 .bool))), (9, (Hn.ty D0Sw)), (14, (Hn.ty (.arr 4 .bool)))], lkp [(2, ⟨[], [(0, (.one (.segs [(.ty D0Sw)])))], [], []⟩), (9, ⟨[(18, tI)], [(3, (.one (.ty (.arr 4 .bool))))], [], []⟩), (16, ⟨[], [(0, (.one (.segs [(.ty D0Sw)])))], [], []⟩), (19, ⟨[], [(0, (.one (.segs [(.ty D0Sw)])))], [], []⟩)]⟩ s92
def K92 : CTab := kc 92 ⟨s92, f92⟩ K146
theorem gk92 : GoodC TBSw 92 ⟨s92, f92⟩ ∧ GoodK TBSw K92 := mk2 ⟨fun _ => rfl, rfl⟩ gk146.2 (by kernel_rfl)
def s38 : Sg := ⟨[(.ty D0Sw)], [], ⟨[(0, tB)], [], [], []⟩⟩
def f38 := fnx TBSw K92 38 ⟨lkp [(75, (Hn.ty (.arr 3 iI)))], lkp [(5, ⟨[(16, tB)], [], [], []⟩), (16, ⟨[(2, tB)], [], [], []⟩), (19, ⟨[(2, tB)], [], [], []⟩), (23, ⟨[(76, tI)], [], [], []⟩), (30, ⟨[(84, tB)], [], [], []⟩), (33, ⟨[(2, tB)], [], [], []⟩)]⟩ s38
def K38 : CTab := kc 38 ⟨s38, f38⟩ K92
theorem gk38 : GoodC TBSw 38 ⟨s38, f38⟩ ∧ GoodK TBSw K38 := mk2 ⟨fun _ => rfl, rfl⟩ gk92.2 (by kernel_rfl)
def s89 : Sg := ⟨[tI, tI], [], ⟨[(0, tS)], [], [], []⟩⟩
def f89 : Nat → s89.inp → Option s89.res := fintS
def K89 : CTab := kc 89 ⟨s89, f89⟩ K38
theorem gk89 : GoodC TBSw 89 ⟨s89, f89⟩ ∧ GoodK TBSw K89 := mkL (good_fint (fun n b h => by show (bif (i64B n && decide ((b : Int) = 10)) then some (AV.str (itoaF n)) else none) = _; rw [h]; rfl)) (by decide) gk38.2
def s59 : Sg := ⟨[tI], [], ⟨[(0, tS)], [], [], []⟩⟩
def f59 : Nat → s59.inp → Option s59.res := itoaS
def K59 : CTab := kc 59 ⟨s59, f59⟩ K89
theorem gk59 : GoodC TBSw 59 ⟨s59, f59⟩ ∧ GoodK TBSw K59 := mkL (good_itoa (fun n h => by show (bif i64B n then some (AV.str (itoaF n)) else none) = _; rw [h]; rfl)) (by decide) gk89.2
def s147 : Sg := ⟨[tI], [], ⟨[(0, tS)], [], [], []⟩⟩
def f147 := fnx TBSw K59 147 ⟨lkp [], lkp []⟩ s147
def K147 : CTab := kc 147 ⟨s147, f147⟩ K59
theorem gk147 : GoodC TBSw 147 ⟨s147, f147⟩ ∧ GoodK TBSw K147 := mk2 ⟨fun _ => rfl, rfl⟩ gk59.2 (by kernel_rfl)
def s148 : Sg := ⟨[tI], [], ⟨[(0, tS)], [], [], []⟩⟩
def f148 := fnx TBSw K147 148 ⟨lkp [], lkp [(5, ⟨[(3, tS), (5, tI)], [], [], []⟩), (10, ⟨[(3, tS)], [], [], []⟩)]⟩ s148
def K148 : CTab := kc 148 ⟨s148, f148⟩ K147
theorem gk148 : GoodC TBSw 148 ⟨s148, f148⟩ ∧ GoodK TBSw K148 := mk2 ⟨fun _ => rfl, rfl⟩ gk147.2 (by kernel_rfl)
def s93 : Sg := ⟨[(.ty D0Sw)], [], ⟨[(0, (.sla 0 .yes))], [], [], [⟨true, (.many .str)⟩]⟩⟩
def f93 := fnx TBSw K148 93 ⟨lkp [(16, (Hn.ty .str)), (26, (Hn.ty .str)), (34, (Hn.ty .str)), (44, (Hn.ty .str)), (54, (Hn.ty .str)), (67, (Hn.ty .str)), (80, (Hn.ty .str)), (92, (Hn.ty .str)), (104, (Hn.ty .str)), (115, (Hn.ty .str)), (130, (Hn.ty .str))], lkp [(4, ⟨[], [], [], []⟩), (38, ⟨[(116, tB)], [], [], []⟩)]⟩ s93
def K93 : CTab := kc 93 ⟨s93, f93⟩ K148
theorem gk93 : GoodC TBSw 93 ⟨s93, f93⟩ ∧ GoodK TBSw K93 := mk3 ⟨fun _ => rfl, rfl⟩ gk148.2 (by kernel_rfl)
def s188 : Sg := ⟨[], [], ⟨[(0, (.ty (.arr 76 .str)))], [], [], []⟩⟩
def f188 := fnx TBSw K93 188 ⟨lkp [(0, (Hn.ty (.arr 76 .str))), (1, (Hn.ty (.arr 76 .str)))], lkp []⟩ s188
def K188 : CTab := kc 188 ⟨s188, f188⟩ K93
theorem gk188 : GoodC TBSw 188 ⟨s188, f188⟩ ∧ GoodK TBSw K188 := mk2 ⟨fun _ => rfl, rfl⟩ gk93.2 (by kernel_rfl)
def s149 : Sg := ⟨[tI], [], ⟨[(0, tS)], [], [], []⟩⟩
def f149 := fnx TBSw K188 149 ⟨lkp [], lkp []⟩ s149
def K149 : CTab := kc 149 ⟨s149, f149⟩ K188
theorem gk149 : GoodC TBSw 149 ⟨s149, f149⟩ ∧ GoodK TBSw K149 := mk2 ⟨fun _ => rfl, rfl⟩ gk188.2 (by kernel_rfl)
def s94 : Sg := ⟨[(.ty D0Sw)], [], ⟨[(0, tS)], [], [], []⟩⟩
def f94 := fnx TBSw K149 94 ⟨lkp [], lkp [(4, ⟨[(7, tB)], [], [], []⟩)]⟩ s94
def K94 : CTab := kc 94 ⟨s94, f94⟩ K149
theorem gk94 : GoodC TBSw 94 ⟨s94, f94⟩ ∧ GoodK TBSw K94 := mk2 ⟨fun _ => rfl, rfl⟩ gk149.2 (by kernel_rfl)
def s95 : Sg := sgJ
def f95 : Nat → s95.inp → Option s95.res := joinS
def K95 : CTab := kc 95 ⟨s95, f95⟩ K94
theorem gk95 : GoodC TBSw 95 ⟨s95, f95⟩ ∧ GoodK TBSw K95 := mkL (good_join (fun _ => rfl) rfl) (by decide) gk94.2
def s39 : Sg := ⟨[(.ty D0Sw)], [], ⟨[(0, tS)], [], [], []⟩⟩
def f39 := fnx TBSw K95 39 ⟨lkp [], lkp []⟩ s39
def K39 : CTab := kc 39 ⟨s39, f39⟩ K95
theorem gk39 : GoodC TBSw 39 ⟨s39, f39⟩ ∧ GoodK TBSw K39 := mk2 ⟨fun _ => rfl, rfl⟩ gk95.2 (by kernel_rfl)
def s13 : Sg := ⟨[(.ty D0Sw)], [], ⟨[(0, (.tup [tS, tI]))], [], [], []⟩⟩
def f13 := fnx TBSw K39 13 ⟨lkp [], lkp []⟩ s13
def K13 : CTab := kc 13 ⟨s13, f13⟩ K39
theorem gk13 : GoodC TBSw 13 ⟨s13, f13⟩ ∧ GoodK TBSw K13 := mk2 ⟨fun _ => rfl, rfl⟩ gk39.2 (by kernel_rfl)
def s40 : Sg := ⟨[tI], [], ⟨[(0, tI)], [], [], []⟩⟩
def f40 := fnx TBSw K13 40 ⟨lkp [(5, (Hn.ty iI))], lkp [(9, ⟨[(0, tI), (4, tI)], [], [], []⟩)]⟩ s40
def K40 : CTab := kc 40 ⟨s40, f40⟩ K13
theorem gk40 : GoodC TBSw 40 ⟨s40, f40⟩ ∧ GoodK TBSw K40 := mk2 ⟨fun _ => rfl, rfl⟩ gk13.2 (by kernel_rfl)
def s41 : Sg := ⟨[tI], [], ⟨[(0, tB)], [], [], []⟩⟩
def f41 := fnx TBSw K40 41 ⟨lkp [], lkp [(2, ⟨[(2, tB)], [], [], []⟩)]⟩ s41
def K41 : CTab := kc 41 ⟨s41, f41⟩ K40
theorem gk41 : GoodC TBSw 41 ⟨s41, f41⟩ ∧ GoodK TBSw K41 := mk2 ⟨fun _ => rfl, rfl⟩ gk40.2 (by kernel_rfl)
def s96 : Sg := ⟨[], [], ⟨[(0, (.sla 0 .yes))], [], [], [⟨true, (.many .str)⟩]⟩⟩
def f96 := fnx TBSw K41 96 ⟨lkp [(1, (Hn.ty .str))], lkp []⟩ s96
def K96 : CTab := kc 96 ⟨s96, f96⟩ K41
theorem gk96 : GoodC TBSw 96 ⟨s96, f96⟩ ∧ GoodK TBSw K96 := mk3 ⟨fun _ => rfl, rfl⟩ gk41.2 (by kernel_rfl)
def s47 : Sg := ⟨[tI], [], ⟨[(0, tS)], [], [], []⟩⟩
def f47 := fnx TBSw K96 47 ⟨lkp [], lkp [(3, ⟨[(12, tB)], [], [], []⟩)]⟩ s47
def K47 : CTab := kc 47 ⟨s47, f47⟩ K96
theorem gk47 : GoodC TBSw 47 ⟨s47, f47⟩ ∧ GoodK TBSw K47 := mk2 ⟨fun _ => rfl, rfl⟩ gk96.2 (by kernel_rfl)
def s42 : Sg := ⟨[tI], [], ⟨[(0, tB)], [], [], []⟩⟩
def f42 := fnx TBSw K47 42 ⟨lkp [], lkp [(2, ⟨[(2, tB)], [], [], []⟩)]⟩ s42
def K42 : CTab := kc 42 ⟨s42, f42⟩ K47
theorem gk42 : GoodC TBSw 42 ⟨s42, f42⟩ ∧ GoodK TBSw K42 := mk2 ⟨fun _ => rfl, rfl⟩ gk47.2 (by kernel_rfl)
def s43 : Sg := ⟨[tI], [], ⟨[(0, tB)], [], [], []⟩⟩
def f43 := fnx TBSw K42 43 ⟨lkp [], lkp [(2, ⟨[(2, tB)], [], [], []⟩)]⟩ s43
def K43 : CTab := kc 43 ⟨s43, f43⟩ K42
theorem gk43 : GoodC TBSw 43 ⟨s43, f43⟩ ∧ GoodK TBSw K43 := mk2 ⟨fun _ => rfl, rfl⟩ gk42.2 (by kernel_rfl)
def s44 : Sg := ⟨[tI], [], ⟨[(0, tI)], [], [], []⟩⟩
def f44 := fnx TBSw K43 44 ⟨lkp [], lkp [(3, ⟨[(15, tB)], [], [], []⟩), (7, ⟨[(25, tB)], [], [], []⟩)]⟩ s44
def K44 : CTab := kc 44 ⟨s44, f44⟩ K43
theorem gk44 : GoodC TBSw 44 ⟨s44, f44⟩ ∧ GoodK TBSw K44 := mk2 ⟨fun _ => rfl, rfl⟩ gk43.2 (by kernel_rfl)
def s45 : Sg := ⟨[tI], [], ⟨[(0, tI)], [], [], []⟩⟩
def f45 := fnx TBSw K44 45 ⟨lkp [], lkp [(21, ⟨[(16, tB)], [], [], []⟩)]⟩ s45
def K45 : CTab := kc 45 ⟨s45, f45⟩ K44
theorem gk45 : GoodC TBSw 45 ⟨s45, f45⟩ ∧ GoodK TBSw K45 := mk2 ⟨fun _ => rfl, rfl⟩ gk44.2 (by kernel_rfl)
def s46 : Sg := ⟨[tI, tI], [], ⟨[(0, tB)], [], [], []⟩⟩
def f46 := fnx TBSw K45 46 ⟨lkp [], lkp [(4, ⟨[(6, tB)], [], [], []⟩), (8, ⟨[(4, tB)], [], [], []⟩), (11, ⟨[(4, tB)], [], [], []⟩), (14, ⟨[(4, tB)], [], [], []⟩), (17, ⟨[(4, tB)], [], [], []⟩)]⟩ s46
def K46 : CTab := kc 46 ⟨s46, f46⟩ K45
theorem gk46 : GoodC TBSw 46 ⟨s46, f46⟩ ∧ GoodK TBSw K46 := mk2 ⟨fun _ => rfl, rfl⟩ gk45.2 (by kernel_rfl)
def s14 : Sg := ⟨[(.ty D0Sw)], [], ⟨[(0, tB)], [], [], []⟩⟩
def f14 := fnx TBSw K46 14 ⟨lkp [], lkp [(3, ⟨[(40, tB)], [], [], []⟩), (7, ⟨[(83, tB)], [], [], []⟩), (13, ⟨[(90, tB)], [], [], []⟩), (16, ⟨[(103, tB)], [], [], []⟩), (19, ⟨[(116, tB)], [], [], []⟩), (22, ⟨[(128, tB)], [], [], []⟩), (30, ⟨[(2, tB)], [], [], []⟩), (33, ⟨[(2, tB)], [], [], []⟩), (34, ⟨[(2, tB)], [], [], []⟩)]⟩ s14
def K14 : CTab := kc 14 ⟨s14, f14⟩ K46
theorem gk14 : GoodC TBSw 14 ⟨s14, f14⟩ ∧ GoodK TBSw K14 := mk2 ⟨fun _ => rfl, rfl⟩ gk46.2 (by kernel_rfl)
def s48 : Sg := ⟨[tI], [], ⟨[(0, tS)], [], [], []⟩⟩
def f48 := fnx TBSw K14 48 ⟨lkp [(15, (Hn.ty (.int .u8)))], lkp [(3, ⟨[(4, tU)], [], [], []⟩), (8, ⟨[(3, tS), (4, tU)], [], [], []⟩), (14, ⟨[(3, tS)], [], [], []⟩)]⟩ s48
def K48 : CTab := kc 48 ⟨s48, f48⟩ K14
theorem gk48 : GoodC TBSw 48 ⟨s48, f48⟩ ∧ GoodK TBSw K48 := mk2 ⟨fun _ => rfl, rfl⟩ gk14.2 (by kernel_rfl)
def s49 : Sg := ⟨[tI], [], ⟨[(0, tS)], [], [], []⟩⟩
def f49 := fnx TBSw K48 49 ⟨lkp [], lkp [(2, ⟨[(3, tS)], [], [], []⟩), (5, ⟨[(3, tS)], [], [], []⟩), (8, ⟨[(3, tS)], [], [], []⟩), (11, ⟨[(3, tS)], [], [], []⟩)]⟩ s49
def K49 : CTab := kc 49 ⟨s49, f49⟩ K48
theorem gk49 : GoodC TBSw 49 ⟨s49, f49⟩ ∧ GoodK TBSw K49 := mk2 ⟨fun _ => rfl, rfl⟩ gk48.2 (by kernel_rfl)
def s15 : Sg := ⟨[(.ty D0Sw)], [], ⟨[(0, tS)], [], [], []⟩⟩
def f15 := fnx TBSw K49 15 ⟨lkp [], lkp [(3, ⟨[(4, tS)], [], [], []⟩), (4, ⟨[(20, tB)], [], [], []⟩), (6, ⟨[(4, tS)], [], [], []⟩), (9, ⟨[(4, tS)], [], [], []⟩), (15, ⟨[(46, tB)], [], [], []⟩), (18, ⟨[(61, tB)], [], [], []⟩)]⟩ s15
def K15 : CTab := kc 15 ⟨s15, f15⟩ K49
theorem gk15 : GoodC TBSw 15 ⟨s15, f15⟩ ∧ GoodK TBSw K15 := mk2 ⟨fun _ => rfl, rfl⟩ gk49.2 (by kernel_rfl)
def s3 : Sg := ⟨[(.ty D0Sw)], [], ⟨[(0, tB)], [], [], []⟩⟩
def f3 := fnx TBSw K15 3 ⟨lkp [], lkp [(9, ⟨[(2, tB)], [], [], []⟩), (10, ⟨[(2, tB)], [], [], []⟩)]⟩ s3
def K3 : CTab := kc 3 ⟨s3, f3⟩ K15
theorem gk3 : GoodC TBSw 3 ⟨s3, f3⟩ ∧ GoodK TBSw K3 := mk2 ⟨fun _ => rfl, rfl⟩ gk15.2 (by kernel_rfl)
def s191 : Sg := ⟨[tS, tS], [], ⟨[(0, tI)], [], [], []⟩⟩
def f191 : Nat → s191.inp → Option s191.res := indexS
def K191 : CTab := kc 191 ⟨s191, f191⟩ K3
theorem gk191 : GoodC TBSw 191 ⟨s191, f191⟩ ∧ GoodK TBSw K191 := mkL (good_index (fun s t h => by show (bif decide ((s : List UInt8).length < 4294967281) then some (AV.int .i64 (idxF s t 0)) else none) = _; rw [h]; rfl)) (by decide) gk3.2
def s153 : Sg := ⟨[tS, tS], [], ⟨[(0, (.tup [tS, tS, tB]))], [], [], []⟩⟩
def f153 := fnx TBSw K191 153 ⟨lkp [], lkp []⟩ s153
def K153 : CTab := kc 153 ⟨s153, f153⟩ K191
theorem gk153 : GoodC TBSw 153 ⟨s153, f153⟩ ∧ GoodK TBSw K153 := mk2 ⟨fun _ => rfl, rfl⟩ gk191.2 (by kernel_rfl)
def s97 : Sg := ⟨[tS, tS], [], ⟨[(0, (.tup [tS, tS, tB]))], [], [], []⟩⟩
def f97 := fnx TBSw K153 97 ⟨lkp [], lkp []⟩ s97
def K97 : CTab := kc 97 ⟨s97, f97⟩ K153
theorem gk97 : GoodC TBSw 97 ⟨s97, f97⟩ ∧ GoodK TBSw K97 := mk2 ⟨fun _ => rfl, rfl⟩ gk153.2 (by kernel_rfl)
def s193 : Sg := ⟨[tS, tS], [], ⟨[(0, tB)], [], [], []⟩⟩
def f193 := fnx TBSw K97 193 ⟨lkp [], lkp [(1, ⟨[(4, tB)], [], [], []⟩)]⟩ s193
def K193 : CTab := kc 193 ⟨s193, f193⟩ K97
theorem gk193 : GoodC TBSw 193 ⟨s193, f193⟩ ∧ GoodK TBSw K193 := mk2 ⟨fun _ => rfl, rfl⟩ gk97.2 (by kernel_rfl)
def s192 : Sg := ⟨[tS, tS], [], ⟨[(0, (.tup [tS, tB]))], [], [], []⟩⟩
def f192 := fnx TBSw K193 192 ⟨lkp [], lkp []⟩ s192
def K192 : CTab := kc 192 ⟨s192, f192⟩ K193
theorem gk192 : GoodC TBSw 192 ⟨s192, f192⟩ ∧ GoodK TBSw K192 := mk2 ⟨fun _ => rfl, rfl⟩ gk193.2 (by kernel_rfl)
def s154 : Sg := ⟨[tS, tS], [], ⟨[(0, (.tup [tS, tB]))], [], [], []⟩⟩
def f154 := fnx TBSw K192 154 ⟨lkp [], lkp []⟩ s154
def K154 : CTab := kc 154 ⟨s154, f154⟩ K192
theorem gk154 : GoodC TBSw 154 ⟨s154, f154⟩ ∧ GoodK TBSw K154 := mk2 ⟨fun _ => rfl, rfl⟩ gk192.2 (by kernel_rfl)
def s155 : Sg := ⟨[tS], [], ⟨[(0, tI)], [], [], []⟩⟩
def f155 := fnx TBSw K154 155 ⟨lkp [], lkp [(4, ⟨[(6, tI)], [], [], []⟩)]⟩ s155
def K155 : CTab := kc 155 ⟨s155, f155⟩ K154
theorem gk155 : GoodC TBSw 155 ⟨s155, f155⟩ ∧ GoodK TBSw K155 := mk2 ⟨fun _ => rfl, rfl⟩ gk154.2 (by kernel_rfl)
def s98 : Sg := ⟨[tS], [], ⟨[(0, (.ty D0Sw))], [], [], []⟩⟩
def f98 := fnx TBSw K155 98 ⟨lkp [(2, (Hn.ty D0Sw)), (4, (Hn.ty D3Sw)), (7, (Hn.ty D3Sw)), (8, (Hn.ty D3Sw)), (9, (Hn.ty D3Sw)), (10, (Hn.ty (.arr 3 D3Sw))), (28, (Hn.ty D0Sw)), (32, (Hn.ty D0Sw))], lkp [(4, ⟨[(11, tI)], [], [], []⟩)]⟩ s98
def K98 : CTab := kc 98 ⟨s98, f98⟩ K155
theorem gk98 : GoodC TBSw 98 ⟨s98, f98⟩ ∧ GoodK TBSw K98 := mk2 ⟨fun _ => rfl, rfl⟩ gk155.2 (by kernel_rfl)
def s157 : Sg := ⟨[tS, tS], [], ⟨[(0, tS)], [], [], []⟩⟩
def f157 := fnx TBSw K98 157 ⟨lkp [], lkp []⟩ s157
def K157 : CTab := kc 157 ⟨s157, f157⟩ K98
theorem gk157 : GoodC TBSw 157 ⟨s157, f157⟩ ∧ GoodK TBSw K157 := mk2 ⟨fun _ => rfl, rfl⟩ gk98.2 (by kernel_rfl)
def s100 : Sg := ⟨[tS, tS], [], ⟨[(0, tS)], [], [], []⟩⟩
def f100 := fnx TBSw K157 100 ⟨lkp [], lkp []⟩ s100
def K100 : CTab := kc 100 ⟨s100, f100⟩ K157
theorem gk100 : GoodC TBSw 100 ⟨s100, f100⟩ ∧ GoodK TBSw K100 := mk2 ⟨fun _ => rfl, rfl⟩ gk157.2 (by kernel_rfl)
def s186 : Sg := ⟨[tS, tS], [], ⟨[(0, tB)], [], [], []⟩⟩
def f186 := fnx TBSw K100 186 ⟨lkp [], lkp [(1, ⟨[(4, tB)], [], [], []⟩)]⟩ s186
def K186 : CTab := kc 186 ⟨s186, f186⟩ K100
theorem gk186 : GoodC TBSw 186 ⟨s186, f186⟩ ∧ GoodK TBSw K186 := mk2 ⟨fun _ => rfl, rfl⟩ gk100.2 (by kernel_rfl)
def s156 : Sg := ⟨[tS, tS], [], ⟨[(0, tB)], [], [], []⟩⟩
def f156 := fnx TBSw K186 156 ⟨lkp [], lkp []⟩ s156
def K156 : CTab := kc 156 ⟨s156, f156⟩ K186
theorem gk156 : GoodC TBSw 156 ⟨s156, f156⟩ ∧ GoodK TBSw K156 := mk2 ⟨fun _ => rfl, rfl⟩ gk186.2 (by kernel_rfl)
def s99 : Sg := ⟨[tS], [], ⟨[(0, (.sla 0 .yes))], [], [], [⟨true, (.many .str)⟩]⟩⟩
def f99 := fnx TBSw K156 99 ⟨lkp [(21, (Hn.ty .str)), (33, (Hn.ty .str)), (47, (Hn.ty .str))], lkp [(6, ⟨[(3, (.sla 0 .yes))], [], [], [⟨true, (.many .str)⟩]⟩), (7, ⟨[(3, (.sla 0 .yes)), (4, tI), (5, tI)], [], [], [⟨true, (.many .str)⟩]⟩), (13, ⟨[(3, (.sla 1 .yes)), (4, tI)], [], [0], [⟨true, (.many .str)⟩]⟩)]⟩ s99
def K99 : CTab := kc 99 ⟨s99, f99⟩ K156
theorem gk99 : GoodC TBSw 99 ⟨s99, f99⟩ ∧ GoodK TBSw K99 := mk3 ⟨fun _ => rfl, rfl⟩ gk156.2 (by kernel_rfl)
def s142 : Sg := ⟨[tS, tS], [], ⟨[(0, (.tup [tS, tB]))], [], [], []⟩⟩
def f142 := fnx TBSw K99 142 ⟨lkp [], lkp []⟩ s142
def K142 : CTab := kc 142 ⟨s142, f142⟩ K99
theorem gk142 : GoodC TBSw 142 ⟨s142, f142⟩ ∧ GoodK TBSw K142 := mk2 ⟨fun _ => rfl, rfl⟩ gk99.2 (by kernel_rfl)
def s90 : Sg := ⟨[tS, tS], [], ⟨[(0, (.tup [tS, tB]))], [], [], []⟩⟩
def f90 := fnx TBSw K142 90 ⟨lkp [], lkp []⟩ s90
def K90 : CTab := kc 90 ⟨s90, f90⟩ K142
theorem gk90 : GoodC TBSw 90 ⟨s90, f90⟩ ∧ GoodK TBSw K90 := mk2 ⟨fun _ => rfl, rfl⟩ gk142.2 (by kernel_rfl)
def s88 : Sg := ⟨[tS, tI, tI], [], ⟨[(0, (.tup [tI, (.ty .err)]))], [], [], []⟩⟩
def f88 : Nat → s88.inp → Option s88.res := pintS
def K88 : CTab := kc 88 ⟨s88, f88⟩ K90
theorem gk88 : GoodC TBSw 88 ⟨s88, f88⟩ ∧ GoodK TBSw K88 := mkL (good_pint (fun s b z h => by show (bif (decide ((s : List UInt8).length ≤ 281474976710656) && decide ((b : Int) = 10) && decide ((z : Int) = 64)) then some (pintF s) else none) = _; rw [h]; rfl)) (by decide) gk90.2
def s36 : Sg := ⟨[tS], [], ⟨[(0, (.tup [tI, tB]))], [], [], []⟩⟩
def f36 := fnx TBSw K88 36 ⟨lkp [], lkp [(3, ⟨[(18, tB)], [], [], []⟩)]⟩ s36
def K36 : CTab := kc 36 ⟨s36, f36⟩ K88
theorem gk36 : GoodC TBSw 36 ⟨s36, f36⟩ ∧ GoodK TBSw K36 := mk2 ⟨fun _ => rfl, rfl⟩ gk88.2 (by kernel_rfl)
def s37 : Sg := ⟨[tS], [], ⟨[(0, (.tup [tI, tB]))], [], [], []⟩⟩
def f37 := fnx TBSw K36 37 ⟨lkp [], lkp [(4, ⟨[(31, tB)], [], [], []⟩)]⟩ s37
def K37 : CTab := kc 37 ⟨s37, f37⟩ K36
theorem gk37 : GoodC TBSw 37 ⟨s37, f37⟩ ∧ GoodK TBSw K37 := mk2 ⟨fun _ => rfl, rfl⟩ gk36.2 (by kernel_rfl)
def s101 : Sg := ⟨[tI, (.ptr 0)], [⟨false, (.one (.segs [(.sla 1 .any)]))⟩, ⟨false, (.many .str)⟩], ⟨[(0, tI)], [], [], []⟩⟩
def f101 := fnx TBSw K37 101 ⟨lkp [], lkp []⟩ s101
def K101 : CTab := kc 101 ⟨s101, f101⟩ K37
theorem gk101 : GoodC TBSw 101 ⟨s101, f101⟩ ∧ GoodK TBSw K101 := mk1 ⟨fun _ => rfl, rfl⟩ gk37.2 (by kernel_rfl)
def s102 : Sg := ⟨[tI, (.ptr 0)], [⟨false, (.one (.segs [(.sla 1 .any)]))⟩, ⟨false, (.many .str)⟩], ⟨[(0, tI)], [], [], []⟩⟩
def f102 := fnx TBSw K101 102 ⟨lkp [], lkp []⟩ s102
def K102 : CTab := kc 102 ⟨s102, f102⟩ K101
theorem gk102 : GoodC TBSw 102 ⟨s102, f102⟩ ∧ GoodK TBSw K102 := mk1 ⟨fun _ => rfl, rfl⟩ gk101.2 (by kernel_rfl)
def s194 : Sg := ⟨[tS, tS], [], ⟨[(0, tI)], [], [], []⟩⟩
def f194 := fnx TBSw K102 194 ⟨lkp [], lkp []⟩ s194
def K194 : CTab := kc 194 ⟨s194, f194⟩ K102
theorem gk194 : GoodC TBSw 194 ⟨s194, f194⟩ ∧ GoodK TBSw K194 := mk2 ⟨fun _ => rfl, rfl⟩ gk102.2 (by kernel_rfl)
def s158 : Sg := ⟨[tS, tS], [], ⟨[(0, tB)], [], [], []⟩⟩
def f158 := fnx TBSw K194 158 ⟨lkp [], lkp []⟩ s158
def K158 : CTab := kc 158 ⟨s158, f158⟩ K194
theorem gk158 : GoodC TBSw 158 ⟨s158, f158⟩ ∧ GoodK TBSw K158 := mk2 ⟨fun _ => rfl, rfl⟩ gk194.2 (by kernel_rfl)
def s103 : Sg := ⟨[tS], [], ⟨[(0, tI)], [], [], []⟩⟩
def f103 := fnx TBSw K158 103 ⟨lkp [], lkp [(5, ⟨[(3, tI), (5, tI)], [], [], []⟩), (10, ⟨[(3, tI)], [], [], []⟩)]⟩ s103
def K103 : CTab := kc 103 ⟨s103, f103⟩ K158
theorem gk103 : GoodC TBSw 103 ⟨s103, f103⟩ ∧ GoodK TBSw K103 := mk2 ⟨fun _ => rfl, rfl⟩ gk158.2 (by kernel_rfl)
def s50 : Sg := ⟨[tS], [], ⟨[(0, (.ty D0Sw))], [], [], []⟩⟩
def f50 := fnx TBSw K103 50 ⟨lkp [(2, (Hn.ty D0Sw)), (6, (Hn.ty D0Sw)), (26, (Hn.ty .str))], lkp [(3, ⟨[], [(1, (.one (.ty D0Sw)))], [], []⟩), (11, ⟨[], [(1, (.one (.ty D0Sw)))], [], []⟩), (35, ⟨[(136, tB)], [], [], []⟩)]⟩ s50
def K50 : CTab := kc 50 ⟨s50, f50⟩ K103
theorem gk50 : GoodC TBSw 50 ⟨s50, f50⟩ ∧ GoodK TBSw K50 := mk2 ⟨fun _ => rfl, rfl⟩ gk103.2 (by kernel_rfl)
def s16 : Sg := ⟨[tS], [], ⟨[(0, (.tup [(.ty D0Sw), tI]))], [], [], []⟩⟩
def f16 := fnx TBSw K50 16 ⟨lkp [(2, (Hn.ty D0Sw)), (4, (Hn.ty D0Sw)), (16, (Hn.ty D0Sw))], lkp [(3, ⟨[(15, tB)], [], [], []⟩)]⟩ s16
def K16 : CTab := kc 16 ⟨s16, f16⟩ K50
theorem gk16 : GoodC TBSw 16 ⟨s16, f16⟩ ∧ GoodK TBSw K16 := mk2 ⟨fun _ => rfl, rfl⟩ gk50.2 (by kernel_rfl)
def s51 : Sg := ⟨[tS], [], ⟨[(0, (.sla 0 .yes))], [], [], [⟨true, (.many .str)⟩]⟩⟩
def f51 := fnx TBSw K16 51 ⟨lkp [(64, (Hn.ty .str))], lkp [(6, ⟨[(3, (.sla 0 .yes)), (4, tS), (5, tI)], [], [], [⟨true, (.many .str)⟩]⟩), (11, ⟨[(3, (.sla 1 .yes)), (4, tS)], [], [0], [⟨true, (.many .str)⟩]⟩), (13, ⟨[(51, tB)], [], [], []⟩), (16, ⟨[(3, (.sla 1 .yes))], [], [0], [⟨true, (.many .str)⟩]⟩)]⟩ s51
def K51 : CTab := kc 51 ⟨s51, f51⟩ K16
theorem gk51 : GoodC TBSw 51 ⟨s51, f51⟩ ∧ GoodK TBSw K51 := mk3 ⟨fun _ => rfl, rfl⟩ gk16.2 (by kernel_rfl)
def s53 : Sg := ⟨[tS], [], ⟨[(0, (.tup [tI, tB]))], [], [], []⟩⟩
def f53 := fnx TBSw K51 53 ⟨lkp [], lkp [(3, ⟨[(4, tS), (5, tB)], [], [], []⟩), (4, ⟨[(16, tB)], [], [], []⟩), (8, ⟨[(39, tB)], [], [], []⟩), (15, ⟨[(6, tU), (7, tI)], [], [], []⟩), (22, ⟨[(55, tB)], [], [], []⟩), (26, ⟨[(73, tB)], [], [], []⟩)]⟩ s53
def K53 : CTab := kc 53 ⟨s53, f53⟩ K51
theorem gk53 : GoodC TBSw 53 ⟨s53, f53⟩ ∧ GoodK TBSw K53 := mk2 ⟨fun _ => rfl, rfl⟩ gk51.2 (by kernel_rfl)
def s52 : Sg := ⟨[tS], [], ⟨[(0, (.tup [tI, tB]))], [], [], []⟩⟩
def f52 := fnx TBSw K53 52 ⟨lkp [], lkp [(2, ⟨[(18, tB)], [], [], []⟩), (7, ⟨[(34, tB)], [], [], []⟩)]⟩ s52
def K52 : CTab := kc 52 ⟨s52, f52⟩ K53
theorem gk52 : GoodC TBSw 52 ⟨s52, f52⟩ ∧ GoodK TBSw K52 := mk2 ⟨fun _ => rfl, rfl⟩ gk53.2 (by kernel_rfl)
def s54 : Sg := ⟨[tS], [], ⟨[(0, tI)], [], [], []⟩⟩
def f54 := fnx TBSw K52 54 ⟨lkp [], lkp [(5, ⟨[(3, tI), (4, tI)], [], [], []⟩), (12, ⟨[(3, tI)], [], [], []⟩)]⟩ s54
def K54 : CTab := kc 54 ⟨s54, f54⟩ K52
theorem gk54 : GoodC TBSw 54 ⟨s54, f54⟩ ∧ GoodK TBSw K54 := mk2 ⟨fun _ => rfl, rfl⟩ gk52.2 (by kernel_rfl)
def s17 : Sg := ⟨[tS], [], ⟨[(0, (.tup [(.ty D0Sw), tB]))], [], [], []⟩⟩
def f17 := fnx TBSw K54 17 ⟨lkp [(2, (Hn.ty D0Sw)), (8, (Hn.ty D0Sw)), (34, (Hn.ty D0Sw)), (179, (Hn.ty D0Sw))], lkp [(5, ⟨[(5, tI)], [], [], []⟩), (14, ⟨[(7, tI)], [], [], []⟩), (21, ⟨[], [(2, (.one (.ty D0Sw)))], [], []⟩), (29, ⟨[(9, tI), (10, tI), (11, tI)], [(2, (.one (.ty D0Sw)))], [], []⟩), (34, ⟨[(9, tI), (10, tI)], [(2, (.one (.ty D0Sw)))], [], []⟩), (37, ⟨[], [(2, (.one (.ty D0Sw)))], [], []⟩), (38, ⟨[(66, tB)], [], [], []⟩), (40, ⟨[], [(2, (.one (.ty D0Sw)))], [], []⟩), (41, ⟨[(78, tB)], [], [], []⟩), (43, ⟨[(9, tI)], [(2, (.one (.ty D0Sw)))], [], []⟩), (47, ⟨[], [(2, (.one (.ty D0Sw)))], [], []⟩), (48, ⟨[(88, tB)], [], [], []⟩), (49, ⟨[(88, tB)], [], [], []⟩), (51, ⟨[(88, tB)], [], [], []⟩), (54, ⟨[(129, tB)], [], [], []⟩), (55, ⟨[(129, tB)], [], [], []⟩), (57, ⟨[(129, tB)], [], [], []⟩), (62, ⟨[(163, tB)], [], [], []⟩), (67, ⟨[(177, tB)], [], [], []⟩)]⟩ s17
def K17 : CTab := kc 17 ⟨s17, f17⟩ K54
theorem gk17 : GoodC TBSw 17 ⟨s17, f17⟩ ∧ GoodK TBSw K17 := mk2 ⟨fun _ => rfl, rfl⟩ gk54.2 (by kernel_rfl)
def s4 : Sg := ⟨[tS], [], ⟨[(0, tB)], [], [], []⟩⟩
def f4 := fnx TBSw K17 4 ⟨lkp [(3, (Hn.ty D0Sw)), (5, (Hn.ty D0Sw))], lkp [(11, ⟨[(2, tB)], [], [], []⟩)]⟩ s4
def K4 : CTab := kc 4 ⟨s4, f4⟩ K17
theorem gk4 : GoodC TBSw 4 ⟨s4, f4⟩ ∧ GoodK TBSw K4 := mk2 ⟨fun _ => rfl, rfl⟩ gk17.2 (by kernel_rfl)
def s107 : Sg := ⟨[tI], [], ⟨[(0, (.ty (.int .u32)))], [], [], []⟩⟩
def f107 := fnx TBSw K4 107 ⟨lkp [], lkp []⟩ s107
def K107 : CTab := kc 107 ⟨s107, f107⟩ K4
theorem gk107 : GoodC TBSw 107 ⟨s107, f107⟩ ∧ GoodK TBSw K107 := mk2 ⟨fun _ => rfl, rfl⟩ gk4.2 (by kernel_rfl)
def s71 : Sg := ⟨[tI], [], ⟨[(0, tI)], [], [], []⟩⟩
def f71 := fnx TBSw K107 71 ⟨lkp [], lkp [(4, ⟨[(4, tB)], [], [], []⟩), (11, ⟨[(8, tB)], [], [], []⟩), (18, ⟨[(12, tB)], [], [], []⟩), (29, ⟨[(18, tB)], [], [], []⟩)]⟩ s71
def K71 : CTab := kc 71 ⟨s71, f71⟩ K107
theorem gk71 : GoodC TBSw 71 ⟨s71, f71⟩ ∧ GoodK TBSw K71 := mk2 ⟨fun _ => rfl, rfl⟩ gk107.2 (by kernel_rfl)
def s108 : Sg := ⟨[tI], [], ⟨[(0, (.ty (.int .u32)))], [], [], []⟩⟩
def f108 := fnx TBSw K71 108 ⟨lkp [(7, (Hn.ty (.arr 6 (.int .u32))))], lkp [(13, ⟨[(21, tB)], [], [], []⟩), (27, ⟨[(29, tB)], [], [], []⟩), (36, ⟨[(34, tB)], [], [], []⟩), (41, ⟨[(37, tB)], [], [], []⟩), (46, ⟨[(40, tB)], [], [], []⟩), (51, ⟨[(43, tB)], [], [], []⟩), (68, ⟨[(52, tB)], [], [], []⟩), (73, ⟨[(55, tB)], [], [], []⟩)]⟩ s108
def K108 : CTab := kc 108 ⟨s108, f108⟩ K71
theorem gk108 : GoodC TBSw 108 ⟨s108, f108⟩ ∧ GoodK TBSw K108 := mk2 ⟨fun _ => rfl, rfl⟩ gk71.2 (by kernel_rfl)
def s109 : Sg := ⟨[tI], [], ⟨[(0, (.ty (.int .u32)))], [], [], []⟩⟩
def f109 := fnx TBSw K108 109 ⟨lkp [(3, (Hn.ty (.arr 9 (.int .u32)))), (12, (Hn.ty (.arr 9 (.int .u32))))], lkp [(17, ⟨[(20, tB)], [], [], []⟩)]⟩ s109
def K109 : CTab := kc 109 ⟨s109, f109⟩ K108
theorem gk109 : GoodC TBSw 109 ⟨s109, f109⟩ ∧ GoodK TBSw K109 := mk2 ⟨fun _ => rfl, rfl⟩ gk108.2 (by kernel_rfl)
def s110 : Sg := ⟨[tB, tI], [], ⟨[(0, (.ty (.int .u32)))], [], [], []⟩⟩
def f110 := fnx TBSw K109 110 ⟨lkp [], lkp []⟩ s110
def K110 : CTab := kc 110 ⟨s110, f110⟩ K109
theorem gk110 : GoodC TBSw 110 ⟨s110, f110⟩ ∧ GoodK TBSw K110 := mk2 ⟨fun _ => rfl, rfl⟩ gk109.2 (by kernel_rfl)
def s106 : Sg := ⟨[(.sla 0 .any)], [⟨false, (.many (.int .u32))⟩], ⟨[(0, (.ty (.int .u32)))], [], [], []⟩⟩
def f106 := fnx TBSw K110 106 ⟨lkp [], lkp [(5, ⟨[(3, (.ty (.int .u32))), (8, tI)], [], [], []⟩)]⟩ s106
def K106 : CTab := kc 106 ⟨s106, f106⟩ K110
theorem gk106 : GoodC TBSw 106 ⟨s106, f106⟩ ∧ GoodK TBSw K106 := mk1 ⟨fun _ => rfl, rfl⟩ gk110.2 (by kernel_rfl)
def s57 : Sg := ⟨[(.ty D0Sw)], [], ⟨[(0, (.tup [(.ty (.int .u32)), tI]))], [], [], []⟩⟩
def f57 := fnx TBSw K106 57 ⟨lkp [(51, (Hn.ty (.int .u32)))], lkp []⟩ s57
def K57 : CTab := kc 57 ⟨s57, f57⟩ K106
theorem gk57 : GoodC TBSw 57 ⟨s57, f57⟩ ∧ GoodK TBSw K57 := mk2 ⟨fun _ => rfl, rfl⟩ gk106.2 (by kernel_rfl)
def s115 : Sg := ⟨[tI], [], ⟨[(0, (.ty (.int .u32)))], [], [], []⟩⟩
def f115 := fnx TBSw K57 115 ⟨lkp [], lkp [(31, ⟨[(39, tB)], [], [], []⟩), (37, ⟨[(48, tB)], [], [], []⟩)]⟩ s115
def K115 : CTab := kc 115 ⟨s115, f115⟩ K57
theorem gk115 : GoodC TBSw 115 ⟨s115, f115⟩ ∧ GoodK TBSw K115 := mk2 ⟨fun _ => rfl, rfl⟩ gk57.2 (by kernel_rfl)
def s116 : Sg := ⟨[tI], [], ⟨[(0, (.ty (.int .u32)))], [], [], []⟩⟩
def f116 := fnx TBSw K115 116 ⟨lkp [(12, (Hn.ty (.int .u32)))], lkp [(15, ⟨[(27, tB)], [], [], []⟩), (27, ⟨[(42, tB)], [], [], []⟩), (33, ⟨[(44, tB)], [], [], []⟩), (42, ⟨[(49, tB)], [], [], []⟩), (47, ⟨[(52, tB)], [], [], []⟩), (52, ⟨[(55, tB)], [], [], []⟩), (57, ⟨[(58, tB)], [], [], []⟩), (74, ⟨[(67, tB)], [], [], []⟩), (79, ⟨[(70, tB)], [], [], []⟩)]⟩ s116
def K116 : CTab := kc 116 ⟨s116, f116⟩ K115
theorem gk116 : GoodC TBSw 116 ⟨s116, f116⟩ ∧ GoodK TBSw K116 := mk2 ⟨fun _ => rfl, rfl⟩ gk115.2 (by kernel_rfl)
def s117 : Sg := ⟨[tI], [], ⟨[(0, tB)], [], [], []⟩⟩
def f117 := fnx TBSw K116 117 ⟨lkp [], lkp [(2, ⟨[(2, tB)], [], [], []⟩)]⟩ s117
def K117 : CTab := kc 117 ⟨s117, f117⟩ K116
theorem gk117 : GoodC TBSw 117 ⟨s117, f117⟩ ∧ GoodK TBSw K117 := mk2 ⟨fun _ => rfl, rfl⟩ gk116.2 (by kernel_rfl)
def s173 : Sg := ⟨[tI], [], ⟨[(0, (.ty D4Sw))], [], [], []⟩⟩
def f173 := fnx TBSw K117 173 ⟨lkp [(2, (Hn.ty D4Sw)), (3, (Hn.ty D4Sw))], lkp [(5, ⟨[(4, tI)], [(1, (.one (.ty D4Sw)))], [], []⟩), (14, ⟨[(5, tI)], [], [], []⟩), (21, ⟨[(5, tI)], [], [], []⟩), (24, ⟨[(28, tB)], [], [], []⟩), (28, ⟨[(5, tI)], [], [], []⟩), (31, ⟨[(5, tI)], [], [], []⟩), (34, ⟨[(5, tI)], [], [], []⟩), (35, ⟨[(42, tB)], [], [], []⟩), (37, ⟨[(50, tB)], [], [], []⟩), (45, ⟨[(5, tI)], [], [], []⟩), (48, ⟨[(5, tI)], [], [], []⟩), (49, ⟨[(67, tB)], [], [], []⟩), (51, ⟨[(5, tI)], [], [], []⟩), (54, ⟨[(76, tB)], [], [], []⟩)]⟩ s173
def K173 : CTab := kc 173 ⟨s173, f173⟩ K117
theorem gk173 : GoodC TBSw 173 ⟨s173, f173⟩ ∧ GoodK TBSw K173 := mk2 ⟨fun _ => rfl, rfl⟩ gk117.2 (by kernel_rfl)
def s118 : Sg := ⟨[tI, tI], [], ⟨[(0, (.ty (.int .u32)))], [], [], []⟩⟩
def f118 := fnx TBSw K173 118 ⟨lkp [(5, (Hn.ty D4Sw))], lkp [(6, ⟨[(6, (.ty (.int .u32))), (7, tI)], [], [], []⟩), (11, ⟨[(6, (.ty (.int .u32)))], [], [], []⟩), (12, ⟨[(28, tB)], [], [], []⟩)]⟩ s118
def K118 : CTab := kc 118 ⟨s118, f118⟩ K173
theorem gk118 : GoodC TBSw 118 ⟨s118, f118⟩ ∧ GoodK TBSw K118 := mk2 ⟨fun _ => rfl, rfl⟩ gk173.2 (by kernel_rfl)
def s119 : Sg := ⟨[tI], [], ⟨[(0, (.ty (.int .u32)))], [], [], []⟩⟩
def f119 := fnx TBSw K118 119 ⟨lkp [(15, (Hn.ty (.int .u32)))], lkp [(2, ⟨[(8, tB)], [], [], []⟩), (6, ⟨[(14, tB)], [], [], []⟩)]⟩ s119
def K119 : CTab := kc 119 ⟨s119, f119⟩ K118
theorem gk119 : GoodC TBSw 119 ⟨s119, f119⟩ ∧ GoodK TBSw K119 := mk2 ⟨fun _ => rfl, rfl⟩ gk118.2 (by kernel_rfl)
def s62 : Sg := ⟨[(.ty D0Sw)], [], ⟨[(0, (.ty (.int .u32)))], [], [], []⟩⟩
def f62 := fnx TBSw K119 62 ⟨lkp [], lkp [(3, ⟨[(4, (.ty (.int .u32)))], [], [], []⟩), (6, ⟨[(4, (.ty (.int .u32)))], [], [], []⟩), (9, ⟨[(4, (.ty (.int .u32)))], [], [], []⟩), (14, ⟨[(4, (.ty (.int .u32)))], [], [], []⟩), (18, ⟨[(4, (.ty (.int .u32)))], [], [], []⟩)]⟩ s62
def K62 : CTab := kc 62 ⟨s62, f62⟩ K119
theorem gk62 : GoodC TBSw 62 ⟨s62, f62⟩ ∧ GoodK TBSw K62 := mk2 ⟨fun _ => rfl, rfl⟩ gk119.2 (by kernel_rfl)
def s113 : Sg := ⟨[(.ty (.int .u32)), tI], [], ⟨[(0, tB)], [], [], []⟩⟩
def f113 := fnx TBSw K62 113 ⟨lkp [], lkp [(9, ⟨[(25, tB)], [], [], []⟩), (14, ⟨[(4, tB)], [], [], []⟩), (17, ⟨[(4, tB)], [], [], []⟩), (23, ⟨[(9, (.ty (.int .u32)))], [], [], []⟩), (28, ⟨[(68, tB)], [], [], []⟩), (36, ⟨[(4, tB)], [], [], []⟩)]⟩ s113
def K113 : CTab := kc 113 ⟨s113, f113⟩ K62
theorem gk113 : GoodC TBSw 113 ⟨s113, f113⟩ ∧ GoodK TBSw K113 := mk2 ⟨fun _ => rfl, rfl⟩ gk62.2 (by kernel_rfl)
def s114 : Sg := ⟨[tI, (.ty (.int .u32))], [], ⟨[(0, tI)], [], [], []⟩⟩
def f114 := fnx TBSw K113 114 ⟨lkp [(5, (Hn.ty D4Sw))], lkp [(6, ⟨[(6, tI), (7, tI)], [], [], []⟩), (11, ⟨[(6, tI)], [], [], []⟩), (13, ⟨[(25, tB)], [], [], []⟩)]⟩ s114
def K114 : CTab := kc 114 ⟨s114, f114⟩ K113
theorem gk114 : GoodC TBSw 114 ⟨s114, f114⟩ ∧ GoodK TBSw K114 := mk2 ⟨fun _ => rfl, rfl⟩ gk113.2 (by kernel_rfl)
def s61 : Sg := ⟨[(.ty (.int .u32))], [], ⟨[(0, (.tup [(.ty D0Sw), tB]))], [], [], []⟩⟩
def f61 := fnx TBSw K114 61 ⟨lkp [(2, (Hn.ty D0Sw)), (5, (Hn.ty D0Sw)), (15, (Hn.ty D0Sw)), (91, (Hn.ty D0Sw))], lkp [(4, ⟨[(4, tI)], [], [], []⟩), (14, ⟨[], [(1, (.one (.ty D0Sw)))], [], []⟩), (17, ⟨[], [(1, (.one (.ty D0Sw)))], [], []⟩), (20, ⟨[], [(1, (.one (.ty D0Sw)))], [], []⟩), (23, ⟨[], [(1, (.one (.ty D0Sw)))], [], []⟩), (26, ⟨[], [(1, (.one (.ty D0Sw)))], [], []⟩), (29, ⟨[], [(1, (.one (.ty D0Sw)))], [], []⟩), (32, ⟨[], [(1, (.one (.ty D0Sw)))], [], []⟩), (36, ⟨[], [(1, (.one (.ty D0Sw)))], [], []⟩), (40, ⟨[], [(1, (.one (.ty D0Sw)))], [], []⟩)]⟩ s61
def K61 : CTab := kc 61 ⟨s61, f61⟩ K114
theorem gk61 : GoodC TBSw 61 ⟨s61, f61⟩ ∧ GoodK TBSw K61 := mk2 ⟨fun _ => rfl, rfl⟩ gk114.2 (by kernel_rfl)
def s168 : Sg := ⟨[(.ty (.int .u32)), tI, tI], [], ⟨[(0, (.ty (.int .u32)))], [], [], []⟩⟩
def f168 := fnx TBSw K61 168 ⟨lkp [], lkp [(2, ⟨[(17, tB)], [], [], []⟩)]⟩ s168
def K168 : CTab := kc 168 ⟨s168, f168⟩ K61
theorem gk168 : GoodC TBSw 168 ⟨s168, f168⟩ ∧ GoodK TBSw K168 := mk2 ⟨fun _ => rfl, rfl⟩ gk61.2 (by kernel_rfl)
def s167 : Sg := ⟨[tI, tI, (.ptr 0)], [⟨false, (.one (.segs [(.ty (.int .u32))]))⟩], ⟨[(0, (.ty (.int .u32)))], [], [], []⟩⟩
def f167 := fnx TBSw K168 167 ⟨lkp [], lkp []⟩ s167
def K167 : CTab := kc 167 ⟨s167, f167⟩ K168
theorem gk167 : GoodC TBSw 167 ⟨s167, f167⟩ ∧ GoodK TBSw K167 := mk1 ⟨fun _ => rfl, rfl⟩ gk168.2 (by kernel_rfl)
def s105 : Sg := ⟨[(.ty (.int .u32))], [], ⟨[(0, (.ty D1Sw))], [], [], []⟩⟩
def f105 := fnx TBSw K167 105 ⟨lkp [(2, (Hn.ty D1Sw)), (19, (Hn.ty D1Sw))], lkp []⟩ s105
def K105 : CTab := kc 105 ⟨s105, f105⟩ K167
theorem gk105 : GoodC TBSw 105 ⟨s105, f105⟩ ∧ GoodK TBSw K105 := mk2 ⟨fun _ => rfl, rfl⟩ gk167.2 (by kernel_rfl)
def s159 : Sg := ⟨[tI, (.ty (.int .u32))], [], ⟨[(0, tI)], [], [], []⟩⟩
def f159 := fnx TBSw K105 159 ⟨lkp [(5, (.parts [some iI, some iI, none])), (9, (Hn.ty D2Sw))], lkp [(10, ⟨[(7, tU), (20, tI)], [], [], []⟩)]⟩ s159
def K159 : CTab := kc 159 ⟨s159, f159⟩ K105
theorem gk159 : GoodC TBSw 159 ⟨s159, f159⟩ ∧ GoodK TBSw K159 := mk2 ⟨fun _ => rfl, rfl⟩ gk105.2 (by kernel_rfl)
def s160 : Sg := ⟨[(.ty D1Sw)], [], ⟨[(0, (.tup [tI, tI]))], [], [], []⟩⟩
def f160 := fnx TBSw K159 160 ⟨lkp [(6, (Hn.ty D5Sw)), (41, (Hn.ty D5Sw))], lkp [(5, ⟨[(14, tB)], [], [], []⟩), (8, ⟨[(23, tB)], [], [], []⟩), (11, ⟨[(32, tB)], [], [], []⟩)]⟩ s160
def K160 : CTab := kc 160 ⟨s160, f160⟩ K159
theorem gk160 : GoodC TBSw 160 ⟨s160, f160⟩ ∧ GoodK TBSw K160 := mk2 ⟨fun _ => rfl, rfl⟩ gk159.2 (by kernel_rfl)
def s161 : Sg := ⟨[(.ty D1Sw)], [], ⟨[(0, (.tup [tI, tI]))], [], [], []⟩⟩
def f161 := fnx TBSw K160 161 ⟨lkp [], lkp [(6, ⟨[(11, tB)], [], [], []⟩), (9, ⟨[(22, tB)], [], [], []⟩), (12, ⟨[(33, tB)], [], [], []⟩)]⟩ s161
def K161 : CTab := kc 161 ⟨s161, f161⟩ K160
theorem gk161 : GoodC TBSw 161 ⟨s161, f161⟩ ∧ GoodK TBSw K161 := mk2 ⟨fun _ => rfl, rfl⟩ gk160.2 (by kernel_rfl)
def s162 : Sg := ⟨[], [], ⟨[(0, (.tup [(.ty D5Sw), (.ty D5Sw)]))], [], [], []⟩⟩
def f162 := fnx TBSw K161 162 ⟨lkp [(0, (Hn.ty D5Sw)), (1, (Hn.ty D5Sw)), (2, (Hn.ty D5Sw)), (3, (Hn.ty D5Sw))], lkp []⟩ s162
def K162 : CTab := kc 162 ⟨s162, f162⟩ K161
theorem gk162 : GoodC TBSw 162 ⟨s162, f162⟩ ∧ GoodK TBSw K162 := mk2 ⟨fun _ => rfl, rfl⟩ gk161.2 (by kernel_rfl)
def s163 : Sg := ⟨[(.ty D1Sw), (.ty D5Sw), (.ty D5Sw)], [], ⟨[(0, tI)], [], [], []⟩⟩
def f163 := fnx TBSw K162 163 ⟨lkp [], lkp []⟩ s163
def K163 : CTab := kc 163 ⟨s163, f163⟩ K162
theorem gk163 : GoodC TBSw 163 ⟨s163, f163⟩ ∧ GoodK TBSw K163 := mk2 ⟨fun _ => rfl, rfl⟩ gk162.2 (by kernel_rfl)
def s164 : Sg := ⟨[], [], ⟨[(0, (.tup [(.ty D5Sw), (.ty D5Sw)]))], [], [], []⟩⟩
def f164 := fnx TBSw K163 164 ⟨lkp [(0, (Hn.ty D5Sw)), (1, (Hn.ty D5Sw)), (2, (Hn.ty D5Sw)), (3, (Hn.ty D5Sw))], lkp []⟩ s164
def K164 : CTab := kc 164 ⟨s164, f164⟩ K163
theorem gk164 : GoodC TBSw 164 ⟨s164, f164⟩ ∧ GoodK TBSw K164 := mk2 ⟨fun _ => rfl, rfl⟩ gk163.2 (by kernel_rfl)
def s165 : Sg := ⟨[(.ty (.int .u32))], [], ⟨[(0, (.ty D0Sw))], [], [], []⟩⟩
def f165 := fnx TBSw K164 165 ⟨lkp [(2, (Hn.ty D0Sw)), (6, (Hn.ty D0Sw)), (13, (Hn.ty D0Sw))], lkp []⟩ s165
def K165 : CTab := kc 165 ⟨s165, f165⟩ K164
theorem gk165 : GoodC TBSw 165 ⟨s165, f165⟩ ∧ GoodK TBSw K165 := mk2 ⟨fun _ => rfl, rfl⟩ gk164.2 (by kernel_rfl)
def s166 : Sg := ⟨[(.ty D1Sw)], [], ⟨[(0, tI)], [], [], []⟩⟩
def f166 := fnx TBSw K165 166 ⟨lkp [], lkp [(4, ⟨[(3, tI)], [], [], []⟩), (31, ⟨[(32, tB)], [], [], []⟩)]⟩ s166
def K166 : CTab := kc 166 ⟨s166, f166⟩ K165
theorem gk166 : GoodC TBSw 166 ⟨s166, f166⟩ ∧ GoodK TBSw K166 := mk2 ⟨fun _ => rfl, rfl⟩ gk165.2 (by kernel_rfl)
def s104 : Sg := ⟨[(.ty D1Sw)], [], ⟨[(0, (.ty D0Sw))], [], [], []⟩⟩
def f104 := fnx TBSw K166 104 ⟨lkp [(2, (Hn.ty D0Sw)), (3, (Hn.ty D0Sw)), (4, (Hn.ty D5Sw)), (5, (Hn.ty D5Sw)), (6, (Hn.ty D5Sw)), (7, (Hn.ty D5Sw)), (8, (Hn.ty D5Sw)), (15, (Hn.ty D0Sw)), (52, (Hn.ty D5Sw))], lkp [(4, ⟨[], [(2, (.one (.ty D0Sw)))], [], []⟩), (44, ⟨[], [(2, (.one (.ty D0Sw)))], [], []⟩)]⟩ s104
def K104 : CTab := kc 104 ⟨s104, f104⟩ K166
theorem gk104 : GoodC TBSw 104 ⟨s104, f104⟩ ∧ GoodK TBSw K104 := mk2 ⟨fun _ => rfl, rfl⟩ gk166.2 (by kernel_rfl)
def s56 : Sg := ⟨[(.ty (.int .u32))], [], ⟨[(0, (.tup [(.ty D0Sw), tI]))], [], [], []⟩⟩
def f56 := fnx TBSw K104 56 ⟨lkp [(2, (Hn.ty D0Sw)), (4, (Hn.ty D0Sw)), (11, (Hn.ty D0Sw))], lkp []⟩ s56
def K56 : CTab := kc 56 ⟨s56, f56⟩ K104
theorem gk56 : GoodC TBSw 56 ⟨s56, f56⟩ ∧ GoodK TBSw K56 := mk2 ⟨fun _ => rfl, rfl⟩ gk104.2 (by kernel_rfl)
def s34 : Sg := ⟨[tI], [], ⟨[(0, tI)], [], [], []⟩⟩
def f34 := fnx TBSw K56 34 ⟨lkp [], lkp [(4, ⟨[(19, tB)], [], [], []⟩), (8, ⟨[(5, (.ty (.int .u8)))], [], [], []⟩)]⟩ s34
def K34 : CTab := kc 34 ⟨s34, f34⟩ K56
theorem gk34 : GoodC TBSw 34 ⟨s34, f34⟩ ∧ GoodK TBSw K34 := mk2 ⟨fun _ => rfl, rfl⟩ gk56.2 (by kernel_rfl)
def s69 : Sg := ⟨[tI], [], ⟨[(0, tB)], [], [], []⟩⟩
def f69 := fnx TBSw K34 69 ⟨lkp [], lkp [(4, ⟨[(5, tB)], [], [], []⟩)]⟩ s69
def K69 : CTab := kc 69 ⟨s69, f69⟩ K34
theorem gk69 : GoodC TBSw 69 ⟨s69, f69⟩ ∧ GoodK TBSw K69 := mk2 ⟨fun _ => rfl, rfl⟩ gk34.2 (by kernel_rfl)
def s73 : Sg := ⟨[tI], [], ⟨[(0, tB)], [], [], []⟩⟩
def f73 := fnx TBSw K69 73 ⟨lkp [], lkp [(4, ⟨[(5, tB)], [], [], []⟩)]⟩ s73
def K73 : CTab := kc 73 ⟨s73, f73⟩ K69
theorem gk73 : GoodC TBSw 73 ⟨s73, f73⟩ ∧ GoodK TBSw K73 := mk2 ⟨fun _ => rfl, rfl⟩ gk69.2 (by kernel_rfl)
def s123 : Sg := ⟨[tI], [], ⟨[(0, tB)], [], [], []⟩⟩
def f123 := fnx TBSw K73 123 ⟨lkp [], lkp []⟩ s123
def K123 : CTab := kc 123 ⟨s123, f123⟩ K73
theorem gk123 : GoodC TBSw 123 ⟨s123, f123⟩ ∧ GoodK TBSw K123 := mk2 ⟨fun _ => rfl, rfl⟩ gk73.2 (by kernel_rfl)
def s135 : Sg := ⟨[tI], [], ⟨[(0, tI)], [], [], []⟩⟩
def f135 := fnx TBSw K123 135 ⟨lkp [], lkp [(2, ⟨[(8, tB)], [], [], []⟩)]⟩ s135
def K135 : CTab := kc 135 ⟨s135, f135⟩ K123
theorem gk135 : GoodC TBSw 135 ⟨s135, f135⟩ ∧ GoodK TBSw K135 := mk2 ⟨fun _ => rfl, rfl⟩ gk123.2 (by kernel_rfl)
def s82 : Sg := ⟨[(.ty D0Sw)], [], ⟨[(0, tI)], [], [], []⟩⟩
def f82 := fnx TBSw K135 82 ⟨lkp [], lkp []⟩ s82
def K82 : CTab := kc 82 ⟨s82, f82⟩ K135
theorem gk82 : GoodC TBSw 82 ⟨s82, f82⟩ ∧ GoodK TBSw K82 := mk2 ⟨fun _ => rfl, rfl⟩ gk135.2 (by kernel_rfl)
end
end Go.Proofs.YtkcfkegkhopakaaGreatDoor
