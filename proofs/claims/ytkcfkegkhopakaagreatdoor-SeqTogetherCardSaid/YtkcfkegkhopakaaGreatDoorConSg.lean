/- Contracts of functions, by their bodies and shapes. No condition. -/
import Derived.Test.YtkcfkegkhopakaaGreatDoorShX3
import Derived.Test.YtkcfkegkhopakaaGreatDoorKnSg
import Derived.KernelRfl
namespace Go.Proofs.YtkcfkegkhopakaaGreatDoor
open Go Go.Ev Go.Sh
set_option maxRecDepth 100000
set_option linter.unusedVariables false
abbrev D7Sg : Ty := .arr 8 iI
abbrev D6Sg : Ty := .arr 32 iI
abbrev D5Sg : Ty := .arr 13 iI
abbrev D4Sg : Ty := .pair iI (.pair iI iI)
abbrev D3Sg : Ty := .pair iU (.pair (.arr 32 iU) iI)
abbrev D2Sg : Ty := .pair (.int .u32) (.pair iI (.pair iI (.pair iI (.pair (.int .u32) (.int .u32)))))
abbrev D1Sg : Ty := .pair iI (.pair iI (.pair iI (.pair iI (.pair iI (.pair .bool (.pair .bool (.pair iI iI)))))))
abbrev D0Sg : Ty := .pair iU (.pair D1Sg (.pair iI (.pair iU (.pair iU (.pair iU (.pair iU .bool))))))
def K0Sg : CTab := fun _ _ => none
theorem gk0Sg : True ∧ GoodK TBSg K0Sg := ⟨trivial, fun _ _ _ h => by cases h⟩
noncomputable section
def s26 : Sg := sgB
def f26 (N : Nat) (x : s26.inp) : Option s26.res := some true
def K26 : CTab := kc 26 ⟨s26, f26⟩ K0Sg
theorem gk26 : GoodC TBSg 26 ⟨s26, f26⟩ ∧ GoodK TBSg K26 := mkT rfl gk0Sg.2
def s85 : Sg := ⟨[(.sla 0 .any)], [⟨false, (.many (.int .u8))⟩], ⟨[(0, (.sla 1 .yes))], [], [], [⟨true, (.many (.int .u8))⟩]⟩⟩
def f85 := fnx TBSg K26 85 ⟨lkp [(5, (Hn.ty (.int .u8)))], lkp []⟩ s85
def K85 : CTab := kc 85 ⟨s85, f85⟩ K26
theorem gk85 : GoodC TBSg 85 ⟨s85, f85⟩ ∧ GoodK TBSg K85 := mk3 ⟨fun _ => rfl, rfl⟩ gk26.2 (by kernel_rfl)
def s55 : Sg := ⟨[(.sla 0 .any)], [⟨false, (.many (.int .u8))⟩], ⟨[(0, tU)], [], [], []⟩⟩
def f55 := fnx TBSg K85 55 ⟨lkp [], lkp [(5, ⟨[(3, tU), (4, tI)], [], [], []⟩)]⟩ s55
def K55 : CTab := kc 55 ⟨s55, f55⟩ K85
theorem gk55 : GoodC TBSg 55 ⟨s55, f55⟩ ∧ GoodK TBSg K55 := mk1 ⟨fun _ => rfl, rfl⟩ gk85.2 (by kernel_rfl)
def s70 : Sg := ⟨[tU, tI], [], ⟨[(0, tU)], [], [], []⟩⟩
def f70 := fnx TBSg K55 70 ⟨lkp [], lkp []⟩ s70
def K70 : CTab := kc 70 ⟨s70, f70⟩ K55
theorem gk70 : GoodC TBSg 70 ⟨s70, f70⟩ ∧ GoodK TBSg K70 := mk2 ⟨fun _ => rfl, rfl⟩ gk55.2 (by kernel_rfl)
def s168 : Sg := ⟨[(.ty (.int .u32)), tI, tI], [], ⟨[(0, (.ty (.int .u32)))], [], [], []⟩⟩
def f168 := fnx TBSg K70 168 ⟨lkp [], lkp [(2, ⟨[(17, tB)], [], [], []⟩)]⟩ s168
def K168 : CTab := kc 168 ⟨s168, f168⟩ K70
theorem gk168 : GoodC TBSg 168 ⟨s168, f168⟩ ∧ GoodK TBSg K168 := mk2 ⟨fun _ => rfl, rfl⟩ gk70.2 (by kernel_rfl)
def s167 : Sg := ⟨[tI, tI, (.ptr 0)], [⟨false, (.one (.segs [(.ty (.int .u32))]))⟩], ⟨[(0, (.ty (.int .u32)))], [], [], []⟩⟩
def f167 := fnx TBSg K168 167 ⟨lkp [], lkp []⟩ s167
def K167 : CTab := kc 167 ⟨s167, f167⟩ K168
theorem gk167 : GoodC TBSg 167 ⟨s167, f167⟩ ∧ GoodK TBSg K167 := mk1 ⟨fun _ => rfl, rfl⟩ gk168.2 (by kernel_rfl)
def s105 : Sg := ⟨[(.ty (.int .u32))], [], ⟨[(0, (.ty D2Sg))], [], [], []⟩⟩
def f105 := fnx TBSg K167 105 ⟨lkp [(2, (Hn.ty D2Sg)), (19, (Hn.ty D2Sg))], lkp []⟩ s105
def K105 : CTab := kc 105 ⟨s105, f105⟩ K167
theorem gk105 : GoodC TBSg 105 ⟨s105, f105⟩ ∧ GoodK TBSg K105 := mk2 ⟨fun _ => rfl, rfl⟩ gk167.2 (by kernel_rfl)
def s216 : Sg := ⟨[], [], ⟨[(0, (.segs [tI, tI, .nils, tI, tI, (.sla 0 .yes), tI, tI, (.sla 1 .yes), tI, tI, (.sla 2 .yes), tI, tI, (.sla 3 .yes), tI, tI, (.sla 4 .yes)]))], [], [], [⟨true, (.many D4Sg)⟩, ⟨true, (.many D4Sg)⟩, ⟨true, (.many D4Sg)⟩, ⟨true, (.many D4Sg)⟩, ⟨true, (.many D4Sg)⟩]⟩⟩
def f216 := fnx TBSg K105 216 ⟨lkp [(1, (Hn.ty D4Sg)), (2, (Hn.ty D4Sg)), (3, (.parts [some iI, some iI, none])), (4, (Hn.ty D4Sg)), (5, (Hn.ty D4Sg)), (6, (Hn.ty D4Sg)), (7, (.parts [some iI, some iI, none])), (8, (Hn.ty D4Sg)), (9, (Hn.ty D4Sg)), (10, (Hn.ty D4Sg)), (11, (Hn.ty D4Sg)), (12, (Hn.ty D4Sg)), (13, (.parts [some iI, some iI, none])), (14, (Hn.ty D4Sg)), (15, (Hn.ty D4Sg)), (16, (.parts [some iI, some iI, none])), (17, (Hn.ty D4Sg)), (18, (Hn.ty D4Sg)), (19, (Hn.ty D4Sg)), (20, (Hn.ty D4Sg)), (21, (Hn.ty D4Sg)), (22, (.parts [some iI, some iI, none]))], lkp []⟩ s216
def K216 : CTab := kc 216 ⟨s216, f216⟩ K105
theorem gk216 : GoodC TBSg 216 ⟨s216, f216⟩ ∧ GoodK TBSg K216 := mk0 ⟨fun _ => rfl, rfl⟩ gk105.2 (by kernel_rfl)
def s187 : Sg := ⟨[tI], [], ⟨[(0, (.tup [(.segs [tI, tI, (.sla 0 .yes)]), tB]))], [], [], [⟨true, (.many D4Sg)⟩]⟩⟩
def f187 := fnx TBSg K216 187 ⟨lkp [(2, (.parts [some iI, some iI, none])), (10, (.parts [some iI, some iI, none]))], lkp [(2, ⟨[(9, tB)], [], [], []⟩), (5, ⟨[(3, tB)], [(0, (.one (.segs [tI, tI, (.sla 1 .yes)])))], [], [⟨true, (.many D4Sg)⟩]⟩)]⟩ s187
def K187 : CTab := kc 187 ⟨s187, f187⟩ K216
theorem gk187 : GoodC TBSg 187 ⟨s187, f187⟩ ∧ GoodK TBSg K187 := mk0 ⟨fun _ => rfl, rfl⟩ gk216.2 (by kernel_rfl)
def s127 : Sg := ⟨[tU, tI], [], ⟨[(0, tU)], [], [], []⟩⟩
def f127 := fnx TBSg K187 127 ⟨lkp [], lkp [(2, ⟨[(10, tB)], [], [], []⟩)]⟩ s127
def K127 : CTab := kc 127 ⟨s127, f127⟩ K187
theorem gk127 : GoodC TBSg 127 ⟨s127, f127⟩ ∧ GoodK TBSg K127 := mk2 ⟨fun _ => rfl, rfl⟩ gk187.2 (by kernel_rfl)
def s159 : Sg := ⟨[tI, (.ty (.int .u32))], [], ⟨[(0, tI)], [], [], []⟩⟩
def f159 := fnx TBSg K127 159 ⟨lkp [(5, (.parts [some iI, some iI, none])), (9, (Hn.ty D4Sg))], lkp [(10, ⟨[(7, tU), (20, tI)], [], [], []⟩)]⟩ s159
def K159 : CTab := kc 159 ⟨s159, f159⟩ K127
theorem gk159 : GoodC TBSg 159 ⟨s159, f159⟩ ∧ GoodK TBSg K159 := mk2 ⟨fun _ => rfl, rfl⟩ gk127.2 (by kernel_rfl)
def s160 : Sg := ⟨[(.ty D2Sg)], [], ⟨[(0, (.tup [tI, tI]))], [], [], []⟩⟩
def f160 := fnx TBSg K159 160 ⟨lkp [(6, (Hn.ty D7Sg)), (41, (Hn.ty D7Sg))], lkp [(5, ⟨[(14, tB)], [], [], []⟩), (8, ⟨[(23, tB)], [], [], []⟩), (11, ⟨[(32, tB)], [], [], []⟩)]⟩ s160
def K160 : CTab := kc 160 ⟨s160, f160⟩ K159
theorem gk160 : GoodC TBSg 160 ⟨s160, f160⟩ ∧ GoodK TBSg K160 := mk2 ⟨fun _ => rfl, rfl⟩ gk159.2 (by kernel_rfl)
def s161 : Sg := ⟨[(.ty D2Sg)], [], ⟨[(0, (.tup [tI, tI]))], [], [], []⟩⟩
def f161 := fnx TBSg K160 161 ⟨lkp [], lkp [(6, ⟨[(11, tB)], [], [], []⟩), (9, ⟨[(22, tB)], [], [], []⟩), (12, ⟨[(33, tB)], [], [], []⟩)]⟩ s161
def K161 : CTab := kc 161 ⟨s161, f161⟩ K160
theorem gk161 : GoodC TBSg 161 ⟨s161, f161⟩ ∧ GoodK TBSg K161 := mk2 ⟨fun _ => rfl, rfl⟩ gk160.2 (by kernel_rfl)
def s162 : Sg := ⟨[], [], ⟨[(0, (.tup [(.ty D7Sg), (.ty D7Sg)]))], [], [], []⟩⟩
def f162 := fnx TBSg K161 162 ⟨lkp [(0, (Hn.ty D7Sg)), (1, (Hn.ty D7Sg)), (2, (Hn.ty D7Sg)), (3, (Hn.ty D7Sg))], lkp []⟩ s162
def K162 : CTab := kc 162 ⟨s162, f162⟩ K161
theorem gk162 : GoodC TBSg 162 ⟨s162, f162⟩ ∧ GoodK TBSg K162 := mk2 ⟨fun _ => rfl, rfl⟩ gk161.2 (by kernel_rfl)
def s163 : Sg := ⟨[(.ty D2Sg), (.ty D7Sg), (.ty D7Sg)], [], ⟨[(0, tI)], [], [], []⟩⟩
def f163 := fnx TBSg K162 163 ⟨lkp [], lkp []⟩ s163
def K163 : CTab := kc 163 ⟨s163, f163⟩ K162
theorem gk163 : GoodC TBSg 163 ⟨s163, f163⟩ ∧ GoodK TBSg K163 := mk2 ⟨fun _ => rfl, rfl⟩ gk162.2 (by kernel_rfl)
def s164 : Sg := ⟨[], [], ⟨[(0, (.tup [(.ty D7Sg), (.ty D7Sg)]))], [], [], []⟩⟩
def f164 := fnx TBSg K163 164 ⟨lkp [(0, (Hn.ty D7Sg)), (1, (Hn.ty D7Sg)), (2, (Hn.ty D7Sg)), (3, (Hn.ty D7Sg))], lkp []⟩ s164
def K164 : CTab := kc 164 ⟨s164, f164⟩ K163
theorem gk164 : GoodC TBSg 164 ⟨s164, f164⟩ ∧ GoodK TBSg K164 := mk2 ⟨fun _ => rfl, rfl⟩ gk163.2 (by kernel_rfl)
def s165 : Sg := ⟨[(.ty (.int .u32))], [], ⟨[(0, (.ty D1Sg))], [], [], []⟩⟩
def f165 := fnx TBSg K164 165 ⟨lkp [(2, (Hn.ty D1Sg)), (6, (Hn.ty D1Sg)), (13, (Hn.ty D1Sg))], lkp []⟩ s165
def K165 : CTab := kc 165 ⟨s165, f165⟩ K164
theorem gk165 : GoodC TBSg 165 ⟨s165, f165⟩ ∧ GoodK TBSg K165 := mk2 ⟨fun _ => rfl, rfl⟩ gk164.2 (by kernel_rfl)
def s166 : Sg := ⟨[(.ty D2Sg)], [], ⟨[(0, tI)], [], [], []⟩⟩
def f166 := fnx TBSg K165 166 ⟨lkp [], lkp [(4, ⟨[(3, tI)], [], [], []⟩), (31, ⟨[(32, tB)], [], [], []⟩)]⟩ s166
def K166 : CTab := kc 166 ⟨s166, f166⟩ K165
theorem gk166 : GoodC TBSg 166 ⟨s166, f166⟩ ∧ GoodK TBSg K166 := mk2 ⟨fun _ => rfl, rfl⟩ gk165.2 (by kernel_rfl)
def s104 : Sg := ⟨[(.ty D2Sg)], [], ⟨[(0, (.ty D1Sg))], [], [], []⟩⟩
def f104 := fnx TBSg K166 104 ⟨lkp [(2, (Hn.ty D1Sg)), (3, (Hn.ty D1Sg)), (4, (Hn.ty D7Sg)), (5, (Hn.ty D7Sg)), (6, (Hn.ty D7Sg)), (7, (Hn.ty D7Sg)), (8, (Hn.ty D7Sg)), (15, (Hn.ty D1Sg)), (52, (Hn.ty D7Sg))], lkp [(4, ⟨[], [(2, (.one (.ty D1Sg)))], [], []⟩), (44, ⟨[], [(2, (.one (.ty D1Sg)))], [], []⟩)]⟩ s104
def K104 : CTab := kc 104 ⟨s104, f104⟩ K166
theorem gk104 : GoodC TBSg 104 ⟨s104, f104⟩ ∧ GoodK TBSg K104 := mk2 ⟨fun _ => rfl, rfl⟩ gk166.2 (by kernel_rfl)
def s72 : Sg := ⟨[tI], [], ⟨[(0, tI)], [], [], []⟩⟩
def f72 := fnx TBSg K104 72 ⟨lkp [], lkp [(3, ⟨[(3, tB)], [], [], []⟩)]⟩ s72
def K72 : CTab := kc 72 ⟨s72, f72⟩ K104
theorem gk72 : GoodC TBSg 72 ⟨s72, f72⟩ ∧ GoodK TBSg K72 := mk2 ⟨fun _ => rfl, rfl⟩ gk104.2 (by kernel_rfl)
def s129 : Sg := ⟨[tI], [], ⟨[(0, tI)], [], [], []⟩⟩
def f129 := fnx TBSg K72 129 ⟨lkp [], lkp [(2, ⟨[(8, tB)], [], [], []⟩)]⟩ s129
def K129 : CTab := kc 129 ⟨s129, f129⟩ K72
theorem gk129 : GoodC TBSg 129 ⟨s129, f129⟩ ∧ GoodK TBSg K129 := mk2 ⟨fun _ => rfl, rfl⟩ gk72.2 (by kernel_rfl)
def s76 : Sg := ⟨[(.ty D1Sg)], [], ⟨[(0, tI)], [], [], []⟩⟩
def f76 := fnx TBSg K129 76 ⟨lkp [], lkp [(4, ⟨[(6, tB)], [], [], []⟩)]⟩ s76
def K76 : CTab := kc 76 ⟨s76, f76⟩ K129
theorem gk76 : GoodC TBSg 76 ⟨s76, f76⟩ ∧ GoodK TBSg K76 := mk2 ⟨fun _ => rfl, rfl⟩ gk129.2 (by kernel_rfl)
def s146 : Sg := ⟨[(.ty D1Sg)], [], ⟨[(0, (.sla 0 .yes))], [], [], [⟨true, (.many iI)⟩]⟩⟩
def f146 := fnx TBSg K76 146 ⟨lkp [(22, (Hn.ty iI)), (30, (Hn.ty iI)), (39, (Hn.ty iI)), (50, (Hn.ty iI))], lkp [(4, ⟨[(3, (.sla 1 .yes))], [], [], [⟨true, (.many iI)⟩]⟩), (5, ⟨[(10, tB)], [], [], []⟩), (15, ⟨[(23, tB)], [], [], []⟩), (29, ⟨[(4, (.sla 2 .yes)), (42, tI)], [], [], [⟨true, (.many iI)⟩]⟩), (34, ⟨[(4, (.sla 3 .yes))], [], [2], [⟨true, (.many iI)⟩]⟩)]⟩ s146
def K146 : CTab := kc 146 ⟨s146, f146⟩ K76
theorem gk146 : GoodC TBSg 146 ⟨s146, f146⟩ ∧ GoodK TBSg K146 := mk3 ⟨fun _ => rfl, rfl⟩ gk76.2 (by kernel_rfl)
def s92 : Sg := ⟨[(.ty D1Sg)], [], ⟨[(0, (.ty D1Sg))], [], [], []⟩⟩
def f92 := fnx TBSg K146 92 ⟨lkp [(2, (Hn.ty D1Sg)), (3, (Hn.ty D1Sg)), (4, (Hn.ty (.arr 4 .bool))), (9, (Hn.ty D1Sg)), (14, (Hn.ty (.arr 4 .bool)))], lkp [(2, ⟨[], [(0, (.one (.segs [(.ty D1Sg)])))], [], []⟩), (9, ⟨[(18, tI)], [(3, (.one (.ty (.arr 4 .bool))))], [], []⟩), (16, ⟨[], [(0, (.one (.segs [(.ty D1Sg)])))], [], []⟩), (19, ⟨[], [(0, (.one (.segs [(.ty D1Sg)])))], [], []⟩)]⟩ s92
def K92 : CTab := kc 92 ⟨s92, f92⟩ K146
theorem gk92 : GoodC TBSg 92 ⟨s92, f92⟩ ∧ GoodK TBSg K92 := mk2 ⟨fun _ => rfl, rfl⟩ gk146.2 (by kernel_rfl)
def s56 : Sg := ⟨[(.ty (.int .u32))], [], ⟨[(0, (.tup [(.ty D1Sg), tI]))], [], [], []⟩⟩
def f56 := fnx TBSg K92 56 ⟨lkp [(2, (Hn.ty D1Sg)), (4, (Hn.ty D1Sg)), (11, (Hn.ty D1Sg))], lkp []⟩ s56
def K56 : CTab := kc 56 ⟨s56, f56⟩ K92
theorem gk56 : GoodC TBSg 56 ⟨s56, f56⟩ ∧ GoodK TBSg K56 := mk2 ⟨fun _ => rfl, rfl⟩ gk92.2 (by kernel_rfl)
def s27 : Sg := ⟨[(.sla 0 .any), tU], [⟨false, (.many (.int .u8))⟩], ⟨[(0, (.tup [(.ty D1Sg), tI]))], [], [], []⟩⟩
def f27 := fnx TBSg K56 27 ⟨lkp [(4, (Hn.ty D1Sg)), (6, (Hn.ty D1Sg)), (24, (Hn.ty D1Sg)), (38, (Hn.ty D1Sg))], lkp [(2, ⟨[(23, tB)], [], [], []⟩)]⟩ s27
def K27 : CTab := kc 27 ⟨s27, f27⟩ K56
theorem gk27 : GoodC TBSg 27 ⟨s27, f27⟩ ∧ GoodK TBSg K27 := mk1 ⟨fun _ => rfl, rfl⟩ gk56.2 (by kernel_rfl)
def s71 : Sg := ⟨[tI], [], ⟨[(0, tI)], [], [], []⟩⟩
def f71 := fnx TBSg K27 71 ⟨lkp [], lkp [(4, ⟨[(4, tB)], [], [], []⟩), (11, ⟨[(8, tB)], [], [], []⟩), (18, ⟨[(12, tB)], [], [], []⟩), (29, ⟨[(18, tB)], [], [], []⟩)]⟩ s71
def K71 : CTab := kc 71 ⟨s71, f71⟩ K27
theorem gk71 : GoodC TBSg 71 ⟨s71, f71⟩ ∧ GoodK TBSg K71 := mk2 ⟨fun _ => rfl, rfl⟩ gk27.2 (by kernel_rfl)
def s124 : Sg := ⟨[(.ty D1Sg), tU], [], ⟨[(0, tU)], [], [], []⟩⟩
def f124 := fnx TBSg K71 124 ⟨lkp [], lkp [(4, ⟨[(8, tB)], [], [], []⟩), (9, ⟨[(16, tB)], [], [], []⟩)]⟩ s124
def K124 : CTab := kc 124 ⟨s124, f124⟩ K71
theorem gk124 : GoodC TBSg 124 ⟨s124, f124⟩ ∧ GoodK TBSg K124 := mk2 ⟨fun _ => rfl, rfl⟩ gk71.2 (by kernel_rfl)
def s125 : Sg := ⟨[tI, tU, tI], [], ⟨[(0, tI)], [], [], []⟩⟩
def f125 := fnx TBSg K124 125 ⟨lkp [], lkp [(10, ⟨[(19, tB)], [], [], []⟩)]⟩ s125
def K125 : CTab := kc 125 ⟨s125, f125⟩ K124
theorem gk125 : GoodC TBSg 125 ⟨s125, f125⟩ ∧ GoodK TBSg K125 := mk2 ⟨fun _ => rfl, rfl⟩ gk124.2 (by kernel_rfl)
def s86 : Sg := ⟨[(.ptr 0), (.ty D3Sg), (.sla 2 .any)], [⟨false, (.one (.segs [(.sla 1 .yes), tI, tI, tB]))⟩, ⟨false, (.many (.int .u8))⟩, ⟨false, (.many (.int .u8))⟩], ⟨[(0, (.tup [tU, tB]))], [], [], []⟩⟩
def f86 := fnx TBSg K125 86 ⟨lkp [(8, (Hn.ty D1Sg))], lkp [(5, ⟨[(47, tB)], [], [], []⟩), (9, ⟨[(6, tU), (7, tB)], [], [], []⟩)]⟩ s86
def K86 : CTab := kc 86 ⟨s86, f86⟩ K125
theorem gk86 : GoodC TBSg 86 ⟨s86, f86⟩ ∧ GoodK TBSg K86 := mk0 ⟨fun _ => rfl, rfl⟩ gk125.2 (by kernel_rfl)
def s123 : Sg := ⟨[tI], [], ⟨[(0, tB)], [], [], []⟩⟩
def f123 := fnx TBSg K86 123 ⟨lkp [], lkp []⟩ s123
def K123 : CTab := kc 123 ⟨s123, f123⟩ K86
theorem gk123 : GoodC TBSg 123 ⟨s123, f123⟩ ∧ GoodK TBSg K123 := mk2 ⟨fun _ => rfl, rfl⟩ gk86.2 (by kernel_rfl)
def s68 : Sg := ⟨[(.ty D3Sg), (.ty D1Sg), tI], [], ⟨[(0, (.tup [tI, tU]))], [], [], []⟩⟩
def f68 := fnx TBSg K123 68 ⟨lkp [], lkp []⟩ s68
def K68 : CTab := kc 68 ⟨s68, f68⟩ K123
theorem gk68 : GoodC TBSg 68 ⟨s68, f68⟩ ∧ GoodK TBSg K68 := mk2 ⟨fun _ => rfl, rfl⟩ gk123.2 (by kernel_rfl)
def s69 : Sg := ⟨[tI], [], ⟨[(0, tB)], [], [], []⟩⟩
def f69 := fnx TBSg K68 69 ⟨lkp [], lkp [(4, ⟨[(5, tB)], [], [], []⟩)]⟩ s69
def K69 : CTab := kc 69 ⟨s69, f69⟩ K68
theorem gk69 : GoodC TBSg 69 ⟨s69, f69⟩ ∧ GoodK TBSg K69 := mk2 ⟨fun _ => rfl, rfl⟩ gk68.2 (by kernel_rfl)
def s73 : Sg := ⟨[tI], [], ⟨[(0, tB)], [], [], []⟩⟩
def f73 := fnx TBSg K69 73 ⟨lkp [], lkp [(4, ⟨[(5, tB)], [], [], []⟩)]⟩ s73
def K73 : CTab := kc 73 ⟨s73, f73⟩ K69
theorem gk73 : GoodC TBSg 73 ⟨s73, f73⟩ ∧ GoodK TBSg K73 := mk2 ⟨fun _ => rfl, rfl⟩ gk69.2 (by kernel_rfl)
def s126 : Sg := ⟨[tI, tU, tU, tI], [], ⟨[(0, tU)], [], [], []⟩⟩
def f126 := fnx TBSg K73 126 ⟨lkp [], lkp []⟩ s126
def K126 : CTab := kc 126 ⟨s126, f126⟩ K73
theorem gk126 : GoodC TBSg 126 ⟨s126, f126⟩ ∧ GoodK TBSg K126 := mk2 ⟨fun _ => rfl, rfl⟩ gk73.2 (by kernel_rfl)
def s74 : Sg := ⟨[tI, tU, tU], [], ⟨[(0, tU)], [], [], []⟩⟩
def f74 := fnx TBSg K126 74 ⟨lkp [], lkp [(5, ⟨[(13, tB)], [], [], []⟩)]⟩ s74
def K74 : CTab := kc 74 ⟨s74, f74⟩ K126
theorem gk74 : GoodC TBSg 74 ⟨s74, f74⟩ ∧ GoodK TBSg K74 := mk2 ⟨fun _ => rfl, rfl⟩ gk126.2 (by kernel_rfl)
def s128 : Sg := ⟨[(.ty D1Sg), tU, tU], [], ⟨[(0, tB)], [], [], []⟩⟩
def f128 := fnx TBSg K74 128 ⟨lkp [], lkp []⟩ s128
def K128 : CTab := kc 128 ⟨s128, f128⟩ K74
theorem gk128 : GoodC TBSg 128 ⟨s128, f128⟩ ∧ GoodK TBSg K128 := mk2 ⟨fun _ => rfl, rfl⟩ gk74.2 (by kernel_rfl)
def s75 : Sg := ⟨[(.ty D1Sg), tU, tU, tU], [], ⟨[(0, tU)], [], [], []⟩⟩
def f75 := fnx TBSg K128 75 ⟨lkp [], lkp [(3, ⟨[(9, tB)], [], [], []⟩)]⟩ s75
def K75 : CTab := kc 75 ⟨s75, f75⟩ K128
theorem gk75 : GoodC TBSg 75 ⟨s75, f75⟩ ∧ GoodK TBSg K75 := mk2 ⟨fun _ => rfl, rfl⟩ gk128.2 (by kernel_rfl)
def s130 : Sg := ⟨[tI, tU], [], ⟨[(0, tU)], [], [], []⟩⟩
def f130 := fnx TBSg K75 130 ⟨lkp [], lkp [(6, ⟨[], [], [], []⟩), (13, ⟨[(13, tB)], [], [], []⟩)]⟩ s130
def K130 : CTab := kc 130 ⟨s130, f130⟩ K75
theorem gk130 : GoodC TBSg 130 ⟨s130, f130⟩ ∧ GoodK TBSg K130 := mk2 ⟨fun _ => rfl, rfl⟩ gk75.2 (by kernel_rfl)
def s180 : Sg := ⟨[], [], ⟨[(0, (.ty D5Sg))], [], [], []⟩⟩
def f180 := fnx TBSg K130 180 ⟨lkp [(0, (Hn.ty D5Sg)), (1, (Hn.ty D5Sg))], lkp []⟩ s180
def K180 : CTab := kc 180 ⟨s180, f180⟩ K130
theorem gk180 : GoodC TBSg 180 ⟨s180, f180⟩ ∧ GoodK TBSg K180 := mk2 ⟨fun _ => rfl, rfl⟩ gk130.2 (by kernel_rfl)
def s210 : Sg := ⟨[tB], [], ⟨[(0, tU)], [], [], []⟩⟩
def f210 := fnx TBSg K180 210 ⟨lkp [], lkp []⟩ s210
def K210 : CTab := kc 210 ⟨s210, f210⟩ K180
theorem gk210 : GoodC TBSg 210 ⟨s210, f210⟩ ∧ GoodK TBSg K210 := mk2 ⟨fun _ => rfl, rfl⟩ gk180.2 (by kernel_rfl)
def s211 : Sg := ⟨[tU], [], ⟨[(0, tU)], [], [], []⟩⟩
def f211 := fnx TBSg K210 211 ⟨lkp [], lkp []⟩ s211
def K211 : CTab := kc 211 ⟨s211, f211⟩ K210
theorem gk211 : GoodC TBSg 211 ⟨s211, f211⟩ ∧ GoodK TBSg K211 := mk2 ⟨fun _ => rfl, rfl⟩ gk210.2 (by kernel_rfl)
def s179 : Sg := ⟨[tI, tU, tU], [], ⟨[(0, tU)], [], [], []⟩⟩
def f179 := fnx TBSg K211 179 ⟨lkp [], lkp []⟩ s179
def K179 : CTab := kc 179 ⟨s179, f179⟩ K211
theorem gk179 : GoodC TBSg 179 ⟨s179, f179⟩ ∧ GoodK TBSg K179 := mk2 ⟨fun _ => rfl, rfl⟩ gk211.2 (by kernel_rfl)
def s131 : Sg := ⟨[(.ty D1Sg), tU, tU, tU], [], ⟨[(0, tU)], [], [], []⟩⟩
def f131 := fnx TBSg K179 131 ⟨lkp [], lkp []⟩ s131
def K131 : CTab := kc 131 ⟨s131, f131⟩ K179
theorem gk131 : GoodC TBSg 131 ⟨s131, f131⟩ ∧ GoodK TBSg K131 := mk2 ⟨fun _ => rfl, rfl⟩ gk179.2 (by kernel_rfl)
def s77 : Sg := ⟨[(.ty D3Sg), (.ty D1Sg), tU, tB], [], ⟨[(0, tU)], [], [], []⟩⟩
def f77 := fnx TBSg K131 77 ⟨lkp [], lkp []⟩ s77
def K77 : CTab := kc 77 ⟨s77, f77⟩ K131
theorem gk77 : GoodC TBSg 77 ⟨s77, f77⟩ ∧ GoodK TBSg K77 := mk2 ⟨fun _ => rfl, rfl⟩ gk131.2 (by kernel_rfl)
def s29 : Sg := ⟨[(.ty D3Sg), (.sla 0 .any), tU, tB], [⟨false, (.many (.int .u8))⟩], ⟨[(0, (.tup [(.ty D3Sg), (.ty D0Sg)]))], [], [], []⟩⟩
def f29 := fnx TBSg K77 29 ⟨lkp [(8, (Hn.ty D3Sg)), (9, (Hn.ty D0Sg)), (10, (Hn.ty D1Sg)), (12, (Hn.ty D0Sg)), (21, (Hn.ty D0Sg)), (33, (Hn.ty D0Sg))], lkp [(8, ⟨[], [(5, (.one (.ty D0Sg)))], [], []⟩), (16, ⟨[], [(5, (.one (.ty D0Sg)))], [], []⟩), (19, ⟨[], [(5, (.one (.ty D0Sg)))], [], []⟩), (20, ⟨[], [(5, (.one (.ty D0Sg)))], [], []⟩), (21, ⟨[(79, tB)], [], [], []⟩), (24, ⟨[], [(1, (.one (.segs [(.ty D3Sg)]))), (5, (.one (.ty D0Sg)))], [], []⟩)]⟩ s29
def K29 : CTab := kc 29 ⟨s29, f29⟩ K77
theorem gk29 : GoodC TBSg 29 ⟨s29, f29⟩ ∧ GoodK TBSg K29 := mk1 ⟨fun _ => rfl, rfl⟩ gk77.2 (by kernel_rfl)
def s67 : Sg := ⟨[tU, tI], [], ⟨[(0, (.sla 0 .yes))], [], [], [⟨true, (.many (.int .u8))⟩]⟩⟩
def f67 := fnx TBSg K29 67 ⟨lkp [(13, (Hn.ty (.int .u8)))], lkp [(5, ⟨[(0, tU), (5, (.sla 0 .yes)), (8, tI)], [], [], [⟨true, (.many (.int .u8))⟩]⟩)]⟩ s67
def K67 : CTab := kc 67 ⟨s67, f67⟩ K29
theorem gk67 : GoodC TBSg 67 ⟨s67, f67⟩ ∧ GoodK TBSg K67 := mk3 ⟨fun _ => rfl, rfl⟩ gk29.2 (by kernel_rfl)
def s87 : Sg := ⟨[(.ptr 0), (.ty D0Sg)], [⟨true, (.one (.segs [(.sla 1 .yes), tI, tI, tB]))⟩, ⟨true, (.many (.int .u8))⟩], ⟨[(0, (.tup []))], [(0, (.one (.segs [(.sla 2 .yes), tI, tI, tB])))], [1], [⟨true, (.many (.int .u8))⟩]⟩⟩
def f87 := fnx TBSg K67 87 ⟨lkp [], lkp [(7, ⟨[], [(0, (.one (.segs [(.sla 1 .yes), tI, tI, tB])))], [], []⟩), (12, ⟨[(44, tB)], [], [], []⟩)]⟩ s87
def K87 : CTab := kc 87 ⟨s87, f87⟩ K67
theorem gk87 : GoodC TBSg 87 ⟨s87, f87⟩ ∧ GoodK TBSg K87 := mk0 ⟨fun _ => rfl, rfl⟩ gk67.2 (by kernel_rfl)
def s31 : Sg := ⟨[(.ty D3Sg), (.sla 0 .any), tI], [⟨false, (.many (.int .u8))⟩], ⟨[(0, (.tup [(.ty D3Sg), (.sla 1 .yes), (.sla 2 .yes)]))], [], [], [⟨true, (.many (.int .u8))⟩, ⟨true, (.many D0Sg)⟩]⟩⟩
def f31 := fnx TBSg K87 31 ⟨lkp [(6, (Hn.ty D3Sg)), (13, (Hn.ty D0Sg)), (18, (.parts [none, some iI, some iI, some .bool])), (48, (Hn.ty D0Sg))], lkp [(7, ⟨[(10, (.sla 5 .yes))], [(1, (.one (.segs [(.ty D3Sg)]))), (4, (.one (.segs [(.sla 6 .yes), tI, tI, tB])))], [3], [⟨true, (.many D0Sg)⟩, ⟨true, (.many (.int .u8))⟩]⟩), (8, ⟨[(10, (.sla 5 .yes)), (23, tI)], [(1, (.one (.segs [(.ty D3Sg)]))), (4, (.one (.segs [(.sla 6 .yes), tI, tI, tB])))], [3], [⟨true, (.many D0Sg)⟩, ⟨true, (.many (.int .u8))⟩]⟩)]⟩ s31
def K31 : CTab := kc 31 ⟨s31, f31⟩ K87
theorem gk31 : GoodC TBSg 31 ⟨s31, f31⟩ ∧ GoodK TBSg K31 := mk0 ⟨fun _ => rfl, rfl⟩ gk87.2 (by kernel_rfl)
def s10 : Sg := ⟨[(.ty D3Sg), (.sla 0 .any), (.ty (.int .u8))], [⟨false, (.many (.int .u8))⟩], ⟨[(0, tB)], [], [], []⟩⟩
def f10 := fnx TBSg K31 10 ⟨lkp [(7, (Hn.ty D3Sg)), (11, (Hn.ty D3Sg)), (12, (Hn.ty D0Sg))], lkp [(14, ⟨[(10, tI)], [(1, (.one (.segs [(.ty D3Sg)])))], [], []⟩), (25, ⟨[(6, tB)], [], [], []⟩)]⟩ s10
def K10 : CTab := kc 10 ⟨s10, f10⟩ K31
theorem gk10 : GoodC TBSg 10 ⟨s10, f10⟩ ∧ GoodK TBSg K10 := mk1 ⟨fun _ => rfl, rfl⟩ gk31.2 (by kernel_rfl)
def s60 : Sg := ⟨[(.sla 0 .any)], [⟨false, (.many (.int .u8))⟩], ⟨[(0, tU)], [], [], []⟩⟩
def f60 := fnx TBSg K10 60 ⟨lkp [], lkp [(6, ⟨[(3, tU), (4, tU), (5, tI)], [], [], []⟩), (8, ⟨[(13, tB)], [], [], []⟩)]⟩ s60
def K60 : CTab := kc 60 ⟨s60, f60⟩ K10
theorem gk60 : GoodC TBSg 60 ⟨s60, f60⟩ ∧ GoodK TBSg K60 := mk1 ⟨fun _ => rfl, rfl⟩ gk10.2 (by kernel_rfl)
def s40 : Sg := ⟨[tI], [], ⟨[(0, tI)], [], [], []⟩⟩
def f40 := fnx TBSg K60 40 ⟨lkp [(5, (Hn.ty iI))], lkp [(9, ⟨[(0, tI), (4, tI)], [], [], []⟩)]⟩ s40
def K40 : CTab := kc 40 ⟨s40, f40⟩ K60
theorem gk40 : GoodC TBSg 40 ⟨s40, f40⟩ ∧ GoodK TBSg K40 := mk2 ⟨fun _ => rfl, rfl⟩ gk60.2 (by kernel_rfl)
def s96 : Sg := ⟨[], [], ⟨[(0, (.sla 0 .yes))], [], [], [⟨true, (.many .str)⟩]⟩⟩
def f96 := fnx TBSg K40 96 ⟨lkp [(1, (Hn.ty .str))], lkp []⟩ s96
def K96 : CTab := kc 96 ⟨s96, f96⟩ K40
theorem gk96 : GoodC TBSg 96 ⟨s96, f96⟩ ∧ GoodK TBSg K96 := mk3 ⟨fun _ => rfl, rfl⟩ gk40.2 (by kernel_rfl)
def s47 : Sg := ⟨[tI], [], ⟨[(0, tS)], [], [], []⟩⟩
def f47 := fnx TBSg K96 47 ⟨lkp [], lkp [(3, ⟨[(12, tB)], [], [], []⟩)]⟩ s47
def K47 : CTab := kc 47 ⟨s47, f47⟩ K96
theorem gk47 : GoodC TBSg 47 ⟨s47, f47⟩ ∧ GoodK TBSg K47 := mk2 ⟨fun _ => rfl, rfl⟩ gk96.2 (by kernel_rfl)
def s115 : Sg := ⟨[tI], [], ⟨[(0, (.ty (.int .u32)))], [], [], []⟩⟩
def f115 := fnx TBSg K47 115 ⟨lkp [], lkp [(31, ⟨[(39, tB)], [], [], []⟩), (37, ⟨[(48, tB)], [], [], []⟩)]⟩ s115
def K115 : CTab := kc 115 ⟨s115, f115⟩ K47
theorem gk115 : GoodC TBSg 115 ⟨s115, f115⟩ ∧ GoodK TBSg K115 := mk2 ⟨fun _ => rfl, rfl⟩ gk47.2 (by kernel_rfl)
def s116 : Sg := ⟨[tI], [], ⟨[(0, (.ty (.int .u32)))], [], [], []⟩⟩
def f116 := fnx TBSg K115 116 ⟨lkp [(12, (Hn.ty (.int .u32)))], lkp [(15, ⟨[(27, tB)], [], [], []⟩), (27, ⟨[(42, tB)], [], [], []⟩), (33, ⟨[(44, tB)], [], [], []⟩), (42, ⟨[(49, tB)], [], [], []⟩), (47, ⟨[(52, tB)], [], [], []⟩), (52, ⟨[(55, tB)], [], [], []⟩), (57, ⟨[(58, tB)], [], [], []⟩), (74, ⟨[(67, tB)], [], [], []⟩), (79, ⟨[(70, tB)], [], [], []⟩)]⟩ s116
def K116 : CTab := kc 116 ⟨s116, f116⟩ K115
theorem gk116 : GoodC TBSg 116 ⟨s116, f116⟩ ∧ GoodK TBSg K116 := mk2 ⟨fun _ => rfl, rfl⟩ gk115.2 (by kernel_rfl)
def s117 : Sg := ⟨[tI], [], ⟨[(0, tB)], [], [], []⟩⟩
def f117 := fnx TBSg K116 117 ⟨lkp [], lkp [(2, ⟨[(2, tB)], [], [], []⟩)]⟩ s117
def K117 : CTab := kc 117 ⟨s117, f117⟩ K116
theorem gk117 : GoodC TBSg 117 ⟨s117, f117⟩ ∧ GoodK TBSg K117 := mk2 ⟨fun _ => rfl, rfl⟩ gk116.2 (by kernel_rfl)
def s44 : Sg := ⟨[tI], [], ⟨[(0, tI)], [], [], []⟩⟩
def f44 := fnx TBSg K117 44 ⟨lkp [], lkp [(3, ⟨[(15, tB)], [], [], []⟩), (7, ⟨[(25, tB)], [], [], []⟩)]⟩ s44
def K44 : CTab := kc 44 ⟨s44, f44⟩ K117
theorem gk44 : GoodC TBSg 44 ⟨s44, f44⟩ ∧ GoodK TBSg K44 := mk2 ⟨fun _ => rfl, rfl⟩ gk117.2 (by kernel_rfl)
def s119 : Sg := ⟨[tI], [], ⟨[(0, (.ty (.int .u32)))], [], [], []⟩⟩
def f119 := fnx TBSg K44 119 ⟨lkp [(15, (Hn.ty (.int .u32)))], lkp [(2, ⟨[(8, tB)], [], [], []⟩), (6, ⟨[(14, tB)], [], [], []⟩)]⟩ s119
def K119 : CTab := kc 119 ⟨s119, f119⟩ K44
theorem gk119 : GoodC TBSg 119 ⟨s119, f119⟩ ∧ GoodK TBSg K119 := mk2 ⟨fun _ => rfl, rfl⟩ gk44.2 (by kernel_rfl)
def s113 : Sg := ⟨[(.ty (.int .u32)), tI], [], ⟨[(0, tB)], [], [], []⟩⟩
def f113 := fnx TBSg K119 113 ⟨lkp [], lkp [(9, ⟨[(25, tB)], [], [], []⟩), (14, ⟨[(4, tB)], [], [], []⟩), (17, ⟨[(4, tB)], [], [], []⟩), (23, ⟨[(9, (.ty (.int .u32)))], [], [], []⟩), (28, ⟨[(68, tB)], [], [], []⟩), (36, ⟨[(4, tB)], [], [], []⟩)]⟩ s113
def K113 : CTab := kc 113 ⟨s113, f113⟩ K119
theorem gk113 : GoodC TBSg 113 ⟨s113, f113⟩ ∧ GoodK TBSg K113 := mk2 ⟨fun _ => rfl, rfl⟩ gk119.2 (by kernel_rfl)
def s41 : Sg := ⟨[tI], [], ⟨[(0, tB)], [], [], []⟩⟩
def f41 := fnx TBSg K113 41 ⟨lkp [], lkp [(2, ⟨[(2, tB)], [], [], []⟩)]⟩ s41
def K41 : CTab := kc 41 ⟨s41, f41⟩ K113
theorem gk41 : GoodC TBSg 41 ⟨s41, f41⟩ ∧ GoodK TBSg K41 := mk2 ⟨fun _ => rfl, rfl⟩ gk113.2 (by kernel_rfl)
def s42 : Sg := ⟨[tI], [], ⟨[(0, tB)], [], [], []⟩⟩
def f42 := fnx TBSg K41 42 ⟨lkp [], lkp [(2, ⟨[(2, tB)], [], [], []⟩)]⟩ s42
def K42 : CTab := kc 42 ⟨s42, f42⟩ K41
theorem gk42 : GoodC TBSg 42 ⟨s42, f42⟩ ∧ GoodK TBSg K42 := mk2 ⟨fun _ => rfl, rfl⟩ gk41.2 (by kernel_rfl)
def s43 : Sg := ⟨[tI], [], ⟨[(0, tB)], [], [], []⟩⟩
def f43 := fnx TBSg K42 43 ⟨lkp [], lkp [(2, ⟨[(2, tB)], [], [], []⟩)]⟩ s43
def K43 : CTab := kc 43 ⟨s43, f43⟩ K42
theorem gk43 : GoodC TBSg 43 ⟨s43, f43⟩ ∧ GoodK TBSg K43 := mk2 ⟨fun _ => rfl, rfl⟩ gk42.2 (by kernel_rfl)
def s45 : Sg := ⟨[tI], [], ⟨[(0, tI)], [], [], []⟩⟩
def f45 := fnx TBSg K43 45 ⟨lkp [], lkp [(21, ⟨[(16, tB)], [], [], []⟩)]⟩ s45
def K45 : CTab := kc 45 ⟨s45, f45⟩ K43
theorem gk45 : GoodC TBSg 45 ⟨s45, f45⟩ ∧ GoodK TBSg K45 := mk2 ⟨fun _ => rfl, rfl⟩ gk43.2 (by kernel_rfl)
def s173 : Sg := ⟨[tI], [], ⟨[(0, (.ty D6Sg))], [], [], []⟩⟩
def f173 := fnx TBSg K45 173 ⟨lkp [(2, (Hn.ty D6Sg)), (3, (Hn.ty D6Sg))], lkp [(5, ⟨[(4, tI)], [(1, (.one (.ty D6Sg)))], [], []⟩), (14, ⟨[(5, tI)], [], [], []⟩), (21, ⟨[(5, tI)], [], [], []⟩), (24, ⟨[(28, tB)], [], [], []⟩), (28, ⟨[(5, tI)], [], [], []⟩), (31, ⟨[(5, tI)], [], [], []⟩), (34, ⟨[(5, tI)], [], [], []⟩), (35, ⟨[(42, tB)], [], [], []⟩), (37, ⟨[(50, tB)], [], [], []⟩), (45, ⟨[(5, tI)], [], [], []⟩), (48, ⟨[(5, tI)], [], [], []⟩), (49, ⟨[(67, tB)], [], [], []⟩), (51, ⟨[(5, tI)], [], [], []⟩), (54, ⟨[(76, tB)], [], [], []⟩)]⟩ s173
def K173 : CTab := kc 173 ⟨s173, f173⟩ K45
theorem gk173 : GoodC TBSg 173 ⟨s173, f173⟩ ∧ GoodK TBSg K173 := mk2 ⟨fun _ => rfl, rfl⟩ gk45.2 (by kernel_rfl)
def s114 : Sg := ⟨[tI, (.ty (.int .u32))], [], ⟨[(0, tI)], [], [], []⟩⟩
def f114 := fnx TBSg K173 114 ⟨lkp [(5, (Hn.ty D6Sg))], lkp [(6, ⟨[(6, tI), (7, tI)], [], [], []⟩), (11, ⟨[(6, tI)], [], [], []⟩), (13, ⟨[(25, tB)], [], [], []⟩)]⟩ s114
def K114 : CTab := kc 114 ⟨s114, f114⟩ K173
theorem gk114 : GoodC TBSg 114 ⟨s114, f114⟩ ∧ GoodK TBSg K114 := mk2 ⟨fun _ => rfl, rfl⟩ gk173.2 (by kernel_rfl)
def s61 : Sg := ⟨[(.ty (.int .u32))], [], ⟨[(0, (.tup [(.ty D1Sg), tB]))], [], [], []⟩⟩
def f61 := fnx TBSg K114 61 ⟨lkp [(2, (Hn.ty D1Sg)), (5, (Hn.ty D1Sg)), (15, (Hn.ty D1Sg)), (91, (Hn.ty D1Sg))], lkp [(4, ⟨[(4, tI)], [], [], []⟩), (14, ⟨[], [(1, (.one (.ty D1Sg)))], [], []⟩), (17, ⟨[], [(1, (.one (.ty D1Sg)))], [], []⟩), (20, ⟨[], [(1, (.one (.ty D1Sg)))], [], []⟩), (23, ⟨[], [(1, (.one (.ty D1Sg)))], [], []⟩), (26, ⟨[], [(1, (.one (.ty D1Sg)))], [], []⟩), (29, ⟨[], [(1, (.one (.ty D1Sg)))], [], []⟩), (32, ⟨[], [(1, (.one (.ty D1Sg)))], [], []⟩), (36, ⟨[], [(1, (.one (.ty D1Sg)))], [], []⟩), (40, ⟨[], [(1, (.one (.ty D1Sg)))], [], []⟩)]⟩ s61
def K61 : CTab := kc 61 ⟨s61, f61⟩ K114
theorem gk61 : GoodC TBSg 61 ⟨s61, f61⟩ ∧ GoodK TBSg K61 := mk2 ⟨fun _ => rfl, rfl⟩ gk114.2 (by kernel_rfl)
def s28 : Sg := ⟨[(.sla 0 .any), tU], [⟨false, (.many (.int .u8))⟩], ⟨[(0, (.tup [(.ty D1Sg), tI]))], [], [], []⟩⟩
def f28 := fnx TBSg K61 28 ⟨lkp [(4, (Hn.ty D1Sg)), (6, (Hn.ty D1Sg)), (23, (Hn.ty D1Sg)), (39, (Hn.ty D1Sg))], lkp [(2, ⟨[(22, tB)], [], [], []⟩)]⟩ s28
def K28 : CTab := kc 28 ⟨s28, f28⟩ K61
theorem gk28 : GoodC TBSg 28 ⟨s28, f28⟩ ∧ GoodK TBSg K28 := mk1 ⟨fun _ => rfl, rfl⟩ gk61.2 (by kernel_rfl)
def s34 : Sg := ⟨[tI], [], ⟨[(0, tI)], [], [], []⟩⟩
def f34 := fnx TBSg K28 34 ⟨lkp [], lkp [(4, ⟨[(19, tB)], [], [], []⟩), (8, ⟨[(5, (.ty (.int .u8)))], [], [], []⟩)]⟩ s34
def K34 : CTab := kc 34 ⟨s34, f34⟩ K28
theorem gk34 : GoodC TBSg 34 ⟨s34, f34⟩ ∧ GoodK TBSg K34 := mk2 ⟨fun _ => rfl, rfl⟩ gk28.2 (by kernel_rfl)
def s78 : Sg := ⟨[(.ty D1Sg), tU], [], ⟨[(0, tU)], [], [], []⟩⟩
def f78 := fnx TBSg K34 78 ⟨lkp [], lkp [(3, ⟨[(14, tB)], [], [], []⟩)]⟩ s78
def K78 : CTab := kc 78 ⟨s78, f78⟩ K34
theorem gk78 : GoodC TBSg 78 ⟨s78, f78⟩ ∧ GoodK TBSg K78 := mk2 ⟨fun _ => rfl, rfl⟩ gk34.2 (by kernel_rfl)
def s79 : Sg := ⟨[tI, tU, tI], [], ⟨[(0, tI)], [], [], []⟩⟩
def f79 := fnx TBSg K78 79 ⟨lkp [], lkp [(11, ⟨[(35, tB)], [], [], []⟩)]⟩ s79
def K79 : CTab := kc 79 ⟨s79, f79⟩ K78
theorem gk79 : GoodC TBSg 79 ⟨s79, f79⟩ ∧ GoodK TBSg K79 := mk2 ⟨fun _ => rfl, rfl⟩ gk78.2 (by kernel_rfl)
def s35 : Sg := ⟨[tU, tI], [], ⟨[(0, tU)], [], [], []⟩⟩
def f35 := fnx TBSg K79 35 ⟨lkp [], lkp [(5, ⟨[(5, tU), (6, tI)], [], [], []⟩), (7, ⟨[(13, tB)], [], [], []⟩), (10, ⟨[(5, tU)], [], [], []⟩)]⟩ s35
def K35 : CTab := kc 35 ⟨s35, f35⟩ K79
theorem gk35 : GoodC TBSg 35 ⟨s35, f35⟩ ∧ GoodK TBSg K35 := mk2 ⟨fun _ => rfl, rfl⟩ gk79.2 (by kernel_rfl)
def s132 : Sg := ⟨[tU, tI], [], ⟨[(0, tU)], [], [], []⟩⟩
def f132 := fnx TBSg K35 132 ⟨lkp [], lkp [(3, ⟨[(24, tB)], [], [], []⟩), (9, ⟨[(5, tU), (6, tI)], [], [], []⟩)]⟩ s132
def K132 : CTab := kc 132 ⟨s132, f132⟩ K35
theorem gk132 : GoodC TBSg 132 ⟨s132, f132⟩ ∧ GoodK TBSg K132 := mk2 ⟨fun _ => rfl, rfl⟩ gk35.2 (by kernel_rfl)
def s133 : Sg := ⟨[tU, tU], [], ⟨[(0, tB)], [], [], []⟩⟩
def f133 := fnx TBSg K132 133 ⟨lkp [], lkp []⟩ s133
def K133 : CTab := kc 133 ⟨s133, f133⟩ K132
theorem gk133 : GoodC TBSg 133 ⟨s133, f133⟩ ∧ GoodK TBSg K133 := mk2 ⟨fun _ => rfl, rfl⟩ gk132.2 (by kernel_rfl)
def s80 : Sg := ⟨[tI, tU, tU], [], ⟨[(0, tU)], [], [], []⟩⟩
def f80 := fnx TBSg K133 80 ⟨lkp [], lkp [(4, ⟨[(25, tB)], [], [], []⟩), (17, ⟨[(13, tU)], [], [], []⟩)]⟩ s80
def K80 : CTab := kc 80 ⟨s80, f80⟩ K133
theorem gk80 : GoodC TBSg 80 ⟨s80, f80⟩ ∧ GoodK TBSg K80 := mk2 ⟨fun _ => rfl, rfl⟩ gk133.2 (by kernel_rfl)
def s134 : Sg := ⟨[(.ty D1Sg), tU, tU], [], ⟨[(0, tB)], [], [], []⟩⟩
def f134 := fnx TBSg K80 134 ⟨lkp [], lkp []⟩ s134
def K134 : CTab := kc 134 ⟨s134, f134⟩ K80
theorem gk134 : GoodC TBSg 134 ⟨s134, f134⟩ ∧ GoodK TBSg K134 := mk2 ⟨fun _ => rfl, rfl⟩ gk80.2 (by kernel_rfl)
def s81 : Sg := ⟨[(.ty D1Sg), tU, tU, tU], [], ⟨[(0, tU)], [], [], []⟩⟩
def f81 := fnx TBSg K134 81 ⟨lkp [], lkp [(3, ⟨[(21, tB)], [], [], []⟩)]⟩ s81
def K81 : CTab := kc 81 ⟨s81, f81⟩ K134
theorem gk81 : GoodC TBSg 81 ⟨s81, f81⟩ ∧ GoodK TBSg K81 := mk2 ⟨fun _ => rfl, rfl⟩ gk134.2 (by kernel_rfl)
def s135 : Sg := ⟨[tI], [], ⟨[(0, tI)], [], [], []⟩⟩
def f135 := fnx TBSg K81 135 ⟨lkp [], lkp [(2, ⟨[(8, tB)], [], [], []⟩)]⟩ s135
def K135 : CTab := kc 135 ⟨s135, f135⟩ K81
theorem gk135 : GoodC TBSg 135 ⟨s135, f135⟩ ∧ GoodK TBSg K135 := mk2 ⟨fun _ => rfl, rfl⟩ gk81.2 (by kernel_rfl)
def s82 : Sg := ⟨[(.ty D1Sg)], [], ⟨[(0, tI)], [], [], []⟩⟩
def f82 := fnx TBSg K135 82 ⟨lkp [], lkp []⟩ s82
def K82 : CTab := kc 82 ⟨s82, f82⟩ K135
theorem gk82 : GoodC TBSg 82 ⟨s82, f82⟩ ∧ GoodK TBSg K82 := mk2 ⟨fun _ => rfl, rfl⟩ gk135.2 (by kernel_rfl)
def s83 : Sg := ⟨[tI, tU], [], ⟨[(0, tU)], [], [], []⟩⟩
def f83 := fnx TBSg K82 83 ⟨lkp [], lkp [(3, ⟨[(19, tB)], [], [], []⟩)]⟩ s83
def K83 : CTab := kc 83 ⟨s83, f83⟩ K82
theorem gk83 : GoodC TBSg 83 ⟨s83, f83⟩ ∧ GoodK TBSg K83 := mk2 ⟨fun _ => rfl, rfl⟩ gk82.2 (by kernel_rfl)
def s136 : Sg := ⟨[tB], [], ⟨[(0, tU)], [], [], []⟩⟩
def f136 := fnx TBSg K83 136 ⟨lkp [], lkp []⟩ s136
def K136 : CTab := kc 136 ⟨s136, f136⟩ K83
theorem gk136 : GoodC TBSg 136 ⟨s136, f136⟩ ∧ GoodK TBSg K136 := mk2 ⟨fun _ => rfl, rfl⟩ gk83.2 (by kernel_rfl)
def s137 : Sg := ⟨[tU, tI], [], ⟨[(0, tU)], [], [], []⟩⟩
def f137 := fnx TBSg K136 137 ⟨lkp [], lkp [(4, ⟨[(0, tU), (5, tI)], [], [], []⟩)]⟩ s137
def K137 : CTab := kc 137 ⟨s137, f137⟩ K136
theorem gk137 : GoodC TBSg 137 ⟨s137, f137⟩ ∧ GoodK TBSg K137 := mk2 ⟨fun _ => rfl, rfl⟩ gk136.2 (by kernel_rfl)
def s138 : Sg := ⟨[tU, tI, tI, tU], [], ⟨[(0, tU)], [], [], []⟩⟩
def f138 := fnx TBSg K137 138 ⟨lkp [], lkp [(5, ⟨[(9, tU), (10, tI)], [], [], []⟩), (12, ⟨[(11, tU)], [], [], []⟩)]⟩ s138
def K138 : CTab := kc 138 ⟨s138, f138⟩ K137
theorem gk138 : GoodC TBSg 138 ⟨s138, f138⟩ ∧ GoodK TBSg K138 := mk2 ⟨fun _ => rfl, rfl⟩ gk137.2 (by kernel_rfl)
def s84 : Sg := ⟨[(.ty D1Sg), tU, tU, tU], [], ⟨[(0, tU)], [], [], []⟩⟩
def f84 := fnx TBSg K138 84 ⟨lkp [], lkp [(3, ⟨[(3, tU)], [], [], []⟩), (16, ⟨[(34, tB)], [], [], []⟩), (21, ⟨[(39, tB)], [], [], []⟩), (29, ⟨[(52, tB)], [], [], []⟩), (34, ⟨[(59, tB)], [], [], []⟩), (39, ⟨[(66, tB)], [], [], []⟩), (44, ⟨[(76, tB)], [], [], []⟩), (49, ⟨[(86, tB)], [], [], []⟩), (54, ⟨[(92, tB)], [], [], []⟩), (59, ⟨[(100, tB)], [], [], []⟩), (64, ⟨[(108, tB)], [], [], []⟩), (69, ⟨[(118, tB)], [], [], []⟩), (77, ⟨[(133, tB)], [], [], []⟩), (82, ⟨[(142, tB)], [], [], []⟩), (87, ⟨[(151, tB)], [], [], []⟩)]⟩ s84
def K84 : CTab := kc 84 ⟨s84, f84⟩ K138
theorem gk84 : GoodC TBSg 84 ⟨s84, f84⟩ ∧ GoodK TBSg K84 := mk2 ⟨fun _ => rfl, rfl⟩ gk138.2 (by kernel_rfl)
def s30 : Sg := ⟨[(.ty D3Sg), (.sla 0 .any), tU, tB], [⟨false, (.many (.int .u8))⟩], ⟨[(0, (.tup [(.ty D3Sg), (.ty D0Sg)]))], [], [], []⟩⟩
def f30 := fnx TBSg K84 30 ⟨lkp [(8, (Hn.ty D3Sg)), (9, (Hn.ty D0Sg)), (10, (Hn.ty D1Sg)), (12, (Hn.ty D0Sg)), (32, (Hn.ty D0Sg))], lkp [(6, ⟨[(11, tI)], [], [], []⟩), (9, ⟨[(11, tI)], [], [], []⟩), (12, ⟨[(11, tI)], [(5, (.one (.ty D0Sg)))], [], []⟩), (17, ⟨[(11, tI)], [], [], []⟩), (28, ⟨[(18, tB)], [], [], []⟩), (29, ⟨[], [(5, (.one (.ty D0Sg)))], [], []⟩), (32, ⟨[], [(5, (.one (.ty D0Sg)))], [], []⟩), (35, ⟨[], [(5, (.one (.ty D0Sg)))], [], []⟩), (36, ⟨[(113, tB)], [], [], []⟩), (45, ⟨[], [(5, (.one (.ty D0Sg)))], [], []⟩), (48, ⟨[(140, tB)], [], [], []⟩)]⟩ s30
def K30 : CTab := kc 30 ⟨s30, f30⟩ K84
theorem gk30 : GoodC TBSg 30 ⟨s30, f30⟩ ∧ GoodK TBSg K30 := mk1 ⟨fun _ => rfl, rfl⟩ gk84.2 (by kernel_rfl)
def s32 : Sg := ⟨[(.ty D3Sg), (.sla 0 .any), tI], [⟨false, (.many (.int .u8))⟩], ⟨[(0, (.tup [(.ty D3Sg), (.sla 1 .yes), (.sla 2 .yes)]))], [], [], [⟨true, (.many (.int .u8))⟩, ⟨true, (.many D0Sg)⟩]⟩⟩
def f32 := fnx TBSg K30 32 ⟨lkp [(6, (Hn.ty D3Sg)), (14, (Hn.ty D1Sg)), (20, (Hn.ty D3Sg)), (21, (Hn.ty D0Sg)), (98, (Hn.ty D0Sg))], lkp [(6, ⟨[(2, tI)], [], [], []⟩), (12, ⟨[(10, (.sla 4 .yes)), (11, tI), (12, tI), (13, tI)], [(1, (.one (.segs [(.ty D3Sg)]))), (3, (.many (.int .u8)))], [], [⟨true, (.many D0Sg)⟩]⟩), (14, ⟨[(38, tB)], [], [], []⟩), (17, ⟨[(10, (.sla 5 .yes)), (11, tI), (12, tI)], [(1, (.one (.segs [(.ty D3Sg)]))), (3, (.many (.int .u8)))], [4], [⟨true, (.many D0Sg)⟩]⟩), (23, ⟨[(18, tU), (19, tB)], [], [], []⟩), (24, ⟨[(68, tB)], [], [], []⟩), (34, ⟨[(11, tI), (12, tI)], [], [], []⟩), (38, ⟨[(11, tI)], [], [], []⟩), (41, ⟨[(126, tB)], [], [], []⟩), (45, ⟨[(23, tI)], [(3, (.many (.int .u8)))], [], []⟩)]⟩ s32
def K32 : CTab := kc 32 ⟨s32, f32⟩ K30
theorem gk32 : GoodC TBSg 32 ⟨s32, f32⟩ ∧ GoodK TBSg K32 := mk0 ⟨fun _ => rfl, rfl⟩ gk30.2 (by kernel_rfl)
def s25 : Sg := ⟨[(.sla 0 .any), (.sla 1 .any)], [⟨false, (.many (.int .u8))⟩, ⟨false, (.many (.int .u8))⟩], ⟨[(0, tB)], [], [], []⟩⟩
def f25 := fnx TBSg K32 25 ⟨lkp [], lkp [(8, ⟨[(5, tI)], [], [], []⟩)]⟩ s25
def K25 : CTab := kc 25 ⟨s25, f25⟩ K32
theorem gk25 : GoodC TBSg 25 ⟨s25, f25⟩ ∧ GoodK TBSg K25 := mk1 ⟨fun _ => rfl, rfl⟩ gk32.2 (by kernel_rfl)
def s33 : Sg := ⟨[(.sla 0 .any), (.sla 1 .any)], [⟨false, (.many D0Sg)⟩, ⟨false, (.many D0Sg)⟩], ⟨[(0, tB)], [], [], []⟩⟩
def f33 := fnx TBSg K25 33 ⟨lkp [], lkp [(8, ⟨[(5, tI)], [], [], []⟩)]⟩ s33
def K33 : CTab := kc 33 ⟨s33, f33⟩ K25
theorem gk33 : GoodC TBSg 33 ⟨s33, f33⟩ ∧ GoodK TBSg K33 := mk1 ⟨fun _ => rfl, rfl⟩ gk25.2 (by kernel_rfl)
def s8 : Sg := ⟨[(.ty D3Sg), (.sla 0 .any), tI], [⟨false, (.many (.int .u8))⟩], ⟨[(0, tB)], [], [], []⟩⟩
def f8 := fnx TBSg K33 8 ⟨lkp [(8, (Hn.ty D3Sg)), (11, (Hn.ty D3Sg))], lkp [(10, ⟨[(7, tI)], [], [], []⟩), (15, ⟨[(6, tB)], [], [], []⟩)]⟩ s8
def K8 : CTab := kc 8 ⟨s8, f8⟩ K33
theorem gk8 : GoodC TBSg 8 ⟨s8, f8⟩ ∧ GoodK TBSg K8 := mk1 ⟨fun _ => rfl, rfl⟩ gk33.2 (by kernel_rfl)
def s7 : Sg := ⟨[(.ty D3Sg), (.sla 0 .any), tU, tB], [⟨false, (.many (.int .u8))⟩], ⟨[(0, tB)], [], [], []⟩⟩
def f7 := fnx TBSg K8 7 ⟨lkp [(9, (Hn.ty D1Sg)), (11, (Hn.ty D1Sg)), (13, (Hn.ty D3Sg)), (14, (Hn.ty D0Sg)), (15, (Hn.ty D3Sg)), (16, (Hn.ty D0Sg)), (66, (Hn.ty D0Sg))], lkp [(13, ⟨[(52, tB)], [], [], []⟩), (20, ⟨[(8, tB)], [], [], []⟩), (22, ⟨[(8, tB)], [], [], []⟩)]⟩ s7
def K7 : CTab := kc 7 ⟨s7, f7⟩ K8
theorem gk7 : GoodC TBSg 7 ⟨s7, f7⟩ ∧ GoodK TBSg K7 := mk1 ⟨fun _ => rfl, rfl⟩ gk8.2 (by kernel_rfl)
end
end Go.Proofs.YtkcfkegkhopakaaGreatDoor
