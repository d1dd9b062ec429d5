/- Contracts of functions, by their bodies and shapes. No condition. -/
import Derived.Test.YtkcfkegkhopakaaGreatDoorShX3
import Derived.Test.YtkcfkegkhopakaaGreatDoorKnSt
import Derived.KernelRfl
namespace Go.Proofs.YtkcfkegkhopakaaGreatDoor
open Go Go.Ev Go.Sh
set_option maxRecDepth 100000
set_option linter.unusedVariables false
abbrev D6St : Ty := .arr 8 iI
abbrev D5St : Ty := .arr 13 iI
abbrev D4St : Ty := .pair iI (.pair iI iI)
abbrev D3St : Ty := .pair iU (.pair (.arr 32 iU) iI)
abbrev D2St : Ty := .pair (.int .u32) (.pair iI (.pair iI (.pair iI (.pair (.int .u32) (.int .u32)))))
abbrev D1St : Ty := .pair iI (.pair iI (.pair iI (.pair iI (.pair iI (.pair .bool (.pair .bool (.pair iI iI)))))))
abbrev D0St : Ty := .pair iU (.pair D1St (.pair iI (.pair iU (.pair iU (.pair iU (.pair iU .bool))))))
def K0St : CTab := fun _ _ => none
theorem gk0St : True ∧ GoodK TBSt K0St := ⟨trivial, fun _ _ _ h => by cases h⟩
noncomputable section
def s26 : Sg := sgB
def f26 (N : Nat) (x : s26.inp) : Option s26.res := some true
def K26 : CTab := kc 26 ⟨s26, f26⟩ K0St
theorem gk26 : GoodC TBSt 26 ⟨s26, f26⟩ ∧ GoodK TBSt K26 := mkT rfl gk0St.2
def s24 : Sg := sgA
def f24 : Nat → s24.inp → Option s24.res := imgS imgsSt
def K24 : CTab := kc 24 ⟨s24, f24⟩ K26
theorem gk24 : GoodC TBSt 24 ⟨s24, f24⟩ ∧ GoodK TBSt K24 := mkL (good_img (fun _ => rfl) rfl) (by decide) gk26.2
def s85 : Sg := ⟨[(.sla 0 .any)], [⟨false, (.many (.int .u8))⟩], ⟨[(0, (.sla 1 .yes))], [], [], [⟨true, (.many (.int .u8))⟩]⟩⟩
def f85 := fnx TBSt K24 85 ⟨lkp [(5, (Hn.ty (.int .u8)))], lkp []⟩ s85
def K85 : CTab := kc 85 ⟨s85, f85⟩ K24
theorem gk85 : GoodC TBSt 85 ⟨s85, f85⟩ ∧ GoodK TBSt K85 := mk3 ⟨fun _ => rfl, rfl⟩ gk24.2 (by kernel_rfl)
def s55 : Sg := ⟨[(.sla 0 .any)], [⟨false, (.many (.int .u8))⟩], ⟨[(0, tU)], [], [], []⟩⟩
def f55 := fnx TBSt K85 55 ⟨lkp [], lkp [(5, ⟨[(3, tU), (4, tI)], [], [], []⟩)]⟩ s55
def K55 : CTab := kc 55 ⟨s55, f55⟩ K85
theorem gk55 : GoodC TBSt 55 ⟨s55, f55⟩ ∧ GoodK TBSt K55 := mk1 ⟨fun _ => rfl, rfl⟩ gk85.2 (by kernel_rfl)
def s70 : Sg := ⟨[tU, tI], [], ⟨[(0, tU)], [], [], []⟩⟩
def f70 := fnx TBSt K55 70 ⟨lkp [], lkp []⟩ s70
def K70 : CTab := kc 70 ⟨s70, f70⟩ K55
theorem gk70 : GoodC TBSt 70 ⟨s70, f70⟩ ∧ GoodK TBSt K70 := mk2 ⟨fun _ => rfl, rfl⟩ gk55.2 (by kernel_rfl)
def s168 : Sg := ⟨[(.ty (.int .u32)), tI, tI], [], ⟨[(0, (.ty (.int .u32)))], [], [], []⟩⟩
def f168 := fnx TBSt K70 168 ⟨lkp [], lkp [(2, ⟨[(17, tB)], [], [], []⟩)]⟩ s168
def K168 : CTab := kc 168 ⟨s168, f168⟩ K70
theorem gk168 : GoodC TBSt 168 ⟨s168, f168⟩ ∧ GoodK TBSt K168 := mk2 ⟨fun _ => rfl, rfl⟩ gk70.2 (by kernel_rfl)
def s167 : Sg := ⟨[tI, tI, (.ptr 0)], [⟨false, (.one (.segs [(.ty (.int .u32))]))⟩], ⟨[(0, (.ty (.int .u32)))], [], [], []⟩⟩
def f167 := fnx TBSt K168 167 ⟨lkp [], lkp []⟩ s167
def K167 : CTab := kc 167 ⟨s167, f167⟩ K168
theorem gk167 : GoodC TBSt 167 ⟨s167, f167⟩ ∧ GoodK TBSt K167 := mk1 ⟨fun _ => rfl, rfl⟩ gk168.2 (by kernel_rfl)
def s105 : Sg := ⟨[(.ty (.int .u32))], [], ⟨[(0, (.ty D2St))], [], [], []⟩⟩
def f105 := fnx TBSt K167 105 ⟨lkp [(2, (Hn.ty D2St)), (19, (Hn.ty D2St))], lkp []⟩ s105
def K105 : CTab := kc 105 ⟨s105, f105⟩ K167
theorem gk105 : GoodC TBSt 105 ⟨s105, f105⟩ ∧ GoodK TBSt K105 := mk2 ⟨fun _ => rfl, rfl⟩ gk167.2 (by kernel_rfl)
def s216 : Sg := ⟨[], [], ⟨[(0, (.segs [tI, tI, .nils, tI, tI, (.sla 0 .yes), tI, tI, (.sla 1 .yes), tI, tI, (.sla 2 .yes), tI, tI, (.sla 3 .yes), tI, tI, (.sla 4 .yes)]))], [], [], [⟨true, (.many D4St)⟩, ⟨true, (.many D4St)⟩, ⟨true, (.many D4St)⟩, ⟨true, (.many D4St)⟩, ⟨true, (.many D4St)⟩]⟩⟩
def f216 := fnx TBSt K105 216 ⟨lkp [(1, (Hn.ty D4St)), (2, (Hn.ty D4St)), (3, (.parts [some iI, some iI, none])), (4, (Hn.ty D4St)), (5, (Hn.ty D4St)), (6, (Hn.ty D4St)), (7, (.parts [some iI, some iI, none])), (8, (Hn.ty D4St)), (9, (Hn.ty D4St)), (10, (Hn.ty D4St)), (11, (Hn.ty D4St)), (12, (Hn.ty D4St)), (13, (.parts [some iI, some iI, none])), (14, (Hn.ty D4St)), (15, (Hn.ty D4St)), (16, (.parts [some iI, some iI, none])), (17, (Hn.ty D4St)), (18, (Hn.ty D4St)), (19, (Hn.ty D4St)), (20, (Hn.ty D4St)), (21, (Hn.ty D4St)), (22, (.parts [some iI, some iI, none]))], lkp []⟩ s216
def K216 : CTab := kc 216 ⟨s216, f216⟩ K105
theorem gk216 : GoodC TBSt 216 ⟨s216, f216⟩ ∧ GoodK TBSt K216 := mk0 ⟨fun _ => rfl, rfl⟩ gk105.2 (by kernel_rfl)
def s187 : Sg := ⟨[tI], [], ⟨[(0, (.tup [(.segs [tI, tI, (.sla 0 .yes)]), tB]))], [], [], [⟨true, (.many D4St)⟩]⟩⟩
def f187 := fnx TBSt K216 187 ⟨lkp [(2, (.parts [some iI, some iI, none])), (10, (.parts [some iI, some iI, none]))], lkp [(2, ⟨[(9, tB)], [], [], []⟩), (5, ⟨[(3, tB)], [(0, (.one (.segs [tI, tI, (.sla 1 .yes)])))], [], [⟨true, (.many D4St)⟩]⟩)]⟩ s187
def K187 : CTab := kc 187 ⟨s187, f187⟩ K216
theorem gk187 : GoodC TBSt 187 ⟨s187, f187⟩ ∧ GoodK TBSt K187 := mk0 ⟨fun _ => rfl, rfl⟩ gk216.2 (by kernel_rfl)
def s127 : Sg := ⟨[tU, tI], [], ⟨[(0, tU)], [], [], []⟩⟩
def f127 := fnx TBSt K187 127 ⟨lkp [], lkp [(2, ⟨[(10, tB)], [], [], []⟩)]⟩ s127
def K127 : CTab := kc 127 ⟨s127, f127⟩ K187
theorem gk127 : GoodC TBSt 127 ⟨s127, f127⟩ ∧ GoodK TBSt K127 := mk2 ⟨fun _ => rfl, rfl⟩ gk187.2 (by kernel_rfl)
def s159 : Sg := ⟨[tI, (.ty (.int .u32))], [], ⟨[(0, tI)], [], [], []⟩⟩
def f159 := fnx TBSt K127 159 ⟨lkp [(5, (.parts [some iI, some iI, none])), (9, (Hn.ty D4St))], lkp [(10, ⟨[(7, tU), (20, tI)], [], [], []⟩)]⟩ s159
def K159 : CTab := kc 159 ⟨s159, f159⟩ K127
theorem gk159 : GoodC TBSt 159 ⟨s159, f159⟩ ∧ GoodK TBSt K159 := mk2 ⟨fun _ => rfl, rfl⟩ gk127.2 (by kernel_rfl)
def s160 : Sg := ⟨[(.ty D2St)], [], ⟨[(0, (.tup [tI, tI]))], [], [], []⟩⟩
def f160 := fnx TBSt K159 160 ⟨lkp [(6, (Hn.ty D6St)), (41, (Hn.ty D6St))], lkp [(5, ⟨[(14, tB)], [], [], []⟩), (8, ⟨[(23, tB)], [], [], []⟩), (11, ⟨[(32, tB)], [], [], []⟩)]⟩ s160
def K160 : CTab := kc 160 ⟨s160, f160⟩ K159
theorem gk160 : GoodC TBSt 160 ⟨s160, f160⟩ ∧ GoodK TBSt K160 := mk2 ⟨fun _ => rfl, rfl⟩ gk159.2 (by kernel_rfl)
def s161 : Sg := ⟨[(.ty D2St)], [], ⟨[(0, (.tup [tI, tI]))], [], [], []⟩⟩
def f161 := fnx TBSt K160 161 ⟨lkp [], lkp [(6, ⟨[(11, tB)], [], [], []⟩), (9, ⟨[(22, tB)], [], [], []⟩), (12, ⟨[(33, tB)], [], [], []⟩)]⟩ s161
def K161 : CTab := kc 161 ⟨s161, f161⟩ K160
theorem gk161 : GoodC TBSt 161 ⟨s161, f161⟩ ∧ GoodK TBSt K161 := mk2 ⟨fun _ => rfl, rfl⟩ gk160.2 (by kernel_rfl)
def s162 : Sg := ⟨[], [], ⟨[(0, (.tup [(.ty D6St), (.ty D6St)]))], [], [], []⟩⟩
def f162 := fnx TBSt K161 162 ⟨lkp [(0, (Hn.ty D6St)), (1, (Hn.ty D6St)), (2, (Hn.ty D6St)), (3, (Hn.ty D6St))], lkp []⟩ s162
def K162 : CTab := kc 162 ⟨s162, f162⟩ K161
theorem gk162 : GoodC TBSt 162 ⟨s162, f162⟩ ∧ GoodK TBSt K162 := mk2 ⟨fun _ => rfl, rfl⟩ gk161.2 (by kernel_rfl)
def s163 : Sg := ⟨[(.ty D2St), (.ty D6St), (.ty D6St)], [], ⟨[(0, tI)], [], [], []⟩⟩
def f163 := fnx TBSt K162 163 ⟨lkp [], lkp []⟩ s163
def K163 : CTab := kc 163 ⟨s163, f163⟩ K162
theorem gk163 : GoodC TBSt 163 ⟨s163, f163⟩ ∧ GoodK TBSt K163 := mk2 ⟨fun _ => rfl, rfl⟩ gk162.2 (by kernel_rfl)
def s164 : Sg := ⟨[], [], ⟨[(0, (.tup [(.ty D6St), (.ty D6St)]))], [], [], []⟩⟩
def f164 := fnx TBSt K163 164 ⟨lkp [(0, (Hn.ty D6St)), (1, (Hn.ty D6St)), (2, (Hn.ty D6St)), (3, (Hn.ty D6St))], lkp []⟩ s164
def K164 : CTab := kc 164 ⟨s164, f164⟩ K163
theorem gk164 : GoodC TBSt 164 ⟨s164, f164⟩ ∧ GoodK TBSt K164 := mk2 ⟨fun _ => rfl, rfl⟩ gk163.2 (by kernel_rfl)
def s165 : Sg := ⟨[(.ty (.int .u32))], [], ⟨[(0, (.ty D1St))], [], [], []⟩⟩
def f165 := fnx TBSt K164 165 ⟨lkp [(2, (Hn.ty D1St)), (6, (Hn.ty D1St)), (13, (Hn.ty D1St))], lkp []⟩ s165
def K165 : CTab := kc 165 ⟨s165, f165⟩ K164
theorem gk165 : GoodC TBSt 165 ⟨s165, f165⟩ ∧ GoodK TBSt K165 := mk2 ⟨fun _ => rfl, rfl⟩ gk164.2 (by kernel_rfl)
def s166 : Sg := ⟨[(.ty D2St)], [], ⟨[(0, tI)], [], [], []⟩⟩
def f166 := fnx TBSt K165 166 ⟨lkp [], lkp [(4, ⟨[(3, tI)], [], [], []⟩), (31, ⟨[(32, tB)], [], [], []⟩)]⟩ s166
def K166 : CTab := kc 166 ⟨s166, f166⟩ K165
theorem gk166 : GoodC TBSt 166 ⟨s166, f166⟩ ∧ GoodK TBSt K166 := mk2 ⟨fun _ => rfl, rfl⟩ gk165.2 (by kernel_rfl)
def s104 : Sg := ⟨[(.ty D2St)], [], ⟨[(0, (.ty D1St))], [], [], []⟩⟩
def f104 := fnx TBSt K166 104 ⟨lkp [(2, (Hn.ty D1St)), (3, (Hn.ty D1St)), (4, (Hn.ty D6St)), (5, (Hn.ty D6St)), (6, (Hn.ty D6St)), (7, (Hn.ty D6St)), (8, (Hn.ty D6St)), (15, (Hn.ty D1St)), (52, (Hn.ty D6St))], lkp [(4, ⟨[], [(2, (.one (.ty D1St)))], [], []⟩), (44, ⟨[], [(2, (.one (.ty D1St)))], [], []⟩)]⟩ s104
def K104 : CTab := kc 104 ⟨s104, f104⟩ K166
theorem gk104 : GoodC TBSt 104 ⟨s104, f104⟩ ∧ GoodK TBSt K104 := mk2 ⟨fun _ => rfl, rfl⟩ gk166.2 (by kernel_rfl)
def s72 : Sg := ⟨[tI], [], ⟨[(0, tI)], [], [], []⟩⟩
def f72 := fnx TBSt K104 72 ⟨lkp [], lkp [(3, ⟨[(3, tB)], [], [], []⟩)]⟩ s72
def K72 : CTab := kc 72 ⟨s72, f72⟩ K104
theorem gk72 : GoodC TBSt 72 ⟨s72, f72⟩ ∧ GoodK TBSt K72 := mk2 ⟨fun _ => rfl, rfl⟩ gk104.2 (by kernel_rfl)
def s129 : Sg := ⟨[tI], [], ⟨[(0, tI)], [], [], []⟩⟩
def f129 := fnx TBSt K72 129 ⟨lkp [], lkp [(2, ⟨[(8, tB)], [], [], []⟩)]⟩ s129
def K129 : CTab := kc 129 ⟨s129, f129⟩ K72
theorem gk129 : GoodC TBSt 129 ⟨s129, f129⟩ ∧ GoodK TBSt K129 := mk2 ⟨fun _ => rfl, rfl⟩ gk72.2 (by kernel_rfl)
def s76 : Sg := ⟨[(.ty D1St)], [], ⟨[(0, tI)], [], [], []⟩⟩
def f76 := fnx TBSt K129 76 ⟨lkp [], lkp [(4, ⟨[(6, tB)], [], [], []⟩)]⟩ s76
def K76 : CTab := kc 76 ⟨s76, f76⟩ K129
theorem gk76 : GoodC TBSt 76 ⟨s76, f76⟩ ∧ GoodK TBSt K76 := mk2 ⟨fun _ => rfl, rfl⟩ gk129.2 (by kernel_rfl)
def s146 : Sg := ⟨[(.ty D1St)], [], ⟨[(0, (.sla 0 .yes))], [], [], [⟨true, (.many iI)⟩]⟩⟩
def f146 := fnx TBSt K76 146 ⟨lkp [(22, (Hn.ty iI)), (30, (Hn.ty iI)), (39, (Hn.ty iI)), (50, (Hn.ty iI))], lkp [(4, ⟨[(3, (.sla 1 .yes))], [], [], [⟨true, (.many iI)⟩]⟩), (5, ⟨[(10, tB)], [], [], []⟩), (15, ⟨[(23, tB)], [], [], []⟩), (29, ⟨[(4, (.sla 2 .yes)), (42, tI)], [], [], [⟨true, (.many iI)⟩]⟩), (34, ⟨[(4, (.sla 3 .yes))], [], [2], [⟨true, (.many iI)⟩]⟩)]⟩ s146
def K146 : CTab := kc 146 ⟨s146, f146⟩ K76
theorem gk146 : GoodC TBSt 146 ⟨s146, f146⟩ ∧ GoodK TBSt K146 := mk3 ⟨fun _ => rfl, rfl⟩ gk76.2 (by kernel_rfl)
def s92 : Sg := ⟨[(.ty D1St)], [], ⟨[(0, (.ty D1St))], [], [], []⟩⟩
def f92 := fnx TBSt K146 92 ⟨lkp [(2, (Hn.ty D1St)), (3, (Hn.ty D1St)), (4, (Hn.ty (.arr 4 .bool))), (9, (Hn.ty D1St)), (14, (Hn.ty (.arr 4 .bool)))], lkp [(2, ⟨[], [(0, (.one (.segs [(.ty D1St)])))], [], []⟩), (9, ⟨[(18, tI)], [(3, (.one (.ty (.arr 4 .bool))))], [], []⟩), (16, ⟨[], [(0, (.one (.segs [(.ty D1St)])))], [], []⟩), (19, ⟨[], [(0, (.one (.segs [(.ty D1St)])))], [], []⟩)]⟩ s92
def K92 : CTab := kc 92 ⟨s92, f92⟩ K146
theorem gk92 : GoodC TBSt 92 ⟨s92, f92⟩ ∧ GoodK TBSt K92 := mk2 ⟨fun _ => rfl, rfl⟩ gk146.2 (by kernel_rfl)
def s56 : Sg := ⟨[(.ty (.int .u32))], [], ⟨[(0, (.tup [(.ty D1St), tI]))], [], [], []⟩⟩
def f56 := fnx TBSt K92 56 ⟨lkp [(2, (Hn.ty D1St)), (4, (Hn.ty D1St)), (11, (Hn.ty D1St))], lkp []⟩ s56
def K56 : CTab := kc 56 ⟨s56, f56⟩ K92
theorem gk56 : GoodC TBSt 56 ⟨s56, f56⟩ ∧ GoodK TBSt K56 := mk2 ⟨fun _ => rfl, rfl⟩ gk92.2 (by kernel_rfl)
def s27 : Sg := ⟨[(.sla 0 .any), tU], [⟨false, (.many (.int .u8))⟩], ⟨[(0, (.tup [(.ty D1St), tI]))], [], [], []⟩⟩
def f27 := fnx TBSt K56 27 ⟨lkp [(4, (Hn.ty D1St)), (6, (Hn.ty D1St)), (24, (Hn.ty D1St)), (38, (Hn.ty D1St))], lkp [(2, ⟨[(23, tB)], [], [], []⟩)]⟩ s27
def K27 : CTab := kc 27 ⟨s27, f27⟩ K56
theorem gk27 : GoodC TBSt 27 ⟨s27, f27⟩ ∧ GoodK TBSt K27 := mk1 ⟨fun _ => rfl, rfl⟩ gk56.2 (by kernel_rfl)
def s71 : Sg := ⟨[tI], [], ⟨[(0, tI)], [], [], []⟩⟩
def f71 := fnx TBSt K27 71 ⟨lkp [], lkp [(4, ⟨[(4, tB)], [], [], []⟩), (11, ⟨[(8, tB)], [], [], []⟩), (18, ⟨[(12, tB)], [], [], []⟩), (29, ⟨[(18, tB)], [], [], []⟩)]⟩ s71
def K71 : CTab := kc 71 ⟨s71, f71⟩ K27
theorem gk71 : GoodC TBSt 71 ⟨s71, f71⟩ ∧ GoodK TBSt K71 := mk2 ⟨fun _ => rfl, rfl⟩ gk27.2 (by kernel_rfl)
def s124 : Sg := ⟨[(.ty D1St), tU], [], ⟨[(0, tU)], [], [], []⟩⟩
def f124 := fnx TBSt K71 124 ⟨lkp [], lkp [(4, ⟨[(8, tB)], [], [], []⟩), (9, ⟨[(16, tB)], [], [], []⟩)]⟩ s124
def K124 : CTab := kc 124 ⟨s124, f124⟩ K71
theorem gk124 : GoodC TBSt 124 ⟨s124, f124⟩ ∧ GoodK TBSt K124 := mk2 ⟨fun _ => rfl, rfl⟩ gk71.2 (by kernel_rfl)
def s125 : Sg := ⟨[tI, tU, tI], [], ⟨[(0, tI)], [], [], []⟩⟩
def f125 := fnx TBSt K124 125 ⟨lkp [], lkp [(10, ⟨[(19, tB)], [], [], []⟩)]⟩ s125
def K125 : CTab := kc 125 ⟨s125, f125⟩ K124
theorem gk125 : GoodC TBSt 125 ⟨s125, f125⟩ ∧ GoodK TBSt K125 := mk2 ⟨fun _ => rfl, rfl⟩ gk124.2 (by kernel_rfl)
def s86 : Sg := ⟨[(.ptr 0), (.ty D3St), (.sla 2 .any)], [⟨false, (.one (.segs [(.sla 1 .yes), tI, tI, tB]))⟩, ⟨false, (.many (.int .u8))⟩, ⟨false, (.many (.int .u8))⟩], ⟨[(0, (.tup [tU, tB]))], [], [], []⟩⟩
def f86 := fnx TBSt K125 86 ⟨lkp [(8, (Hn.ty D1St))], lkp [(5, ⟨[(47, tB)], [], [], []⟩), (9, ⟨[(6, tU), (7, tB)], [], [], []⟩)]⟩ s86
def K86 : CTab := kc 86 ⟨s86, f86⟩ K125
theorem gk86 : GoodC TBSt 86 ⟨s86, f86⟩ ∧ GoodK TBSt K86 := mk0 ⟨fun _ => rfl, rfl⟩ gk125.2 (by kernel_rfl)
def s123 : Sg := ⟨[tI], [], ⟨[(0, tB)], [], [], []⟩⟩
def f123 := fnx TBSt K86 123 ⟨lkp [], lkp []⟩ s123
def K123 : CTab := kc 123 ⟨s123, f123⟩ K86
theorem gk123 : GoodC TBSt 123 ⟨s123, f123⟩ ∧ GoodK TBSt K123 := mk2 ⟨fun _ => rfl, rfl⟩ gk86.2 (by kernel_rfl)
def s68 : Sg := ⟨[(.ty D3St), (.ty D1St), tI], [], ⟨[(0, (.tup [tI, tU]))], [], [], []⟩⟩
def f68 := fnx TBSt K123 68 ⟨lkp [], lkp []⟩ s68
def K68 : CTab := kc 68 ⟨s68, f68⟩ K123
theorem gk68 : GoodC TBSt 68 ⟨s68, f68⟩ ∧ GoodK TBSt K68 := mk2 ⟨fun _ => rfl, rfl⟩ gk123.2 (by kernel_rfl)
def s69 : Sg := ⟨[tI], [], ⟨[(0, tB)], [], [], []⟩⟩
def f69 := fnx TBSt K68 69 ⟨lkp [], lkp [(4, ⟨[(5, tB)], [], [], []⟩)]⟩ s69
def K69 : CTab := kc 69 ⟨s69, f69⟩ K68
theorem gk69 : GoodC TBSt 69 ⟨s69, f69⟩ ∧ GoodK TBSt K69 := mk2 ⟨fun _ => rfl, rfl⟩ gk68.2 (by kernel_rfl)
def s73 : Sg := ⟨[tI], [], ⟨[(0, tB)], [], [], []⟩⟩
def f73 := fnx TBSt K69 73 ⟨lkp [], lkp [(4, ⟨[(5, tB)], [], [], []⟩)]⟩ s73
def K73 : CTab := kc 73 ⟨s73, f73⟩ K69
theorem gk73 : GoodC TBSt 73 ⟨s73, f73⟩ ∧ GoodK TBSt K73 := mk2 ⟨fun _ => rfl, rfl⟩ gk69.2 (by kernel_rfl)
def s126 : Sg := ⟨[tI, tU, tU, tI], [], ⟨[(0, tU)], [], [], []⟩⟩
def f126 := fnx TBSt K73 126 ⟨lkp [], lkp []⟩ s126
def K126 : CTab := kc 126 ⟨s126, f126⟩ K73
theorem gk126 : GoodC TBSt 126 ⟨s126, f126⟩ ∧ GoodK TBSt K126 := mk2 ⟨fun _ => rfl, rfl⟩ gk73.2 (by kernel_rfl)
def s74 : Sg := ⟨[tI, tU, tU], [], ⟨[(0, tU)], [], [], []⟩⟩
def f74 := fnx TBSt K126 74 ⟨lkp [], lkp [(5, ⟨[(13, tB)], [], [], []⟩)]⟩ s74
def K74 : CTab := kc 74 ⟨s74, f74⟩ K126
theorem gk74 : GoodC TBSt 74 ⟨s74, f74⟩ ∧ GoodK TBSt K74 := mk2 ⟨fun _ => rfl, rfl⟩ gk126.2 (by kernel_rfl)
def s128 : Sg := ⟨[(.ty D1St), tU, tU], [], ⟨[(0, tB)], [], [], []⟩⟩
def f128 := fnx TBSt K74 128 ⟨lkp [], lkp []⟩ s128
def K128 : CTab := kc 128 ⟨s128, f128⟩ K74
theorem gk128 : GoodC TBSt 128 ⟨s128, f128⟩ ∧ GoodK TBSt K128 := mk2 ⟨fun _ => rfl, rfl⟩ gk74.2 (by kernel_rfl)
def s75 : Sg := ⟨[(.ty D1St), tU, tU, tU], [], ⟨[(0, tU)], [], [], []⟩⟩
def f75 := fnx TBSt K128 75 ⟨lkp [], lkp [(3, ⟨[(9, tB)], [], [], []⟩)]⟩ s75
def K75 : CTab := kc 75 ⟨s75, f75⟩ K128
theorem gk75 : GoodC TBSt 75 ⟨s75, f75⟩ ∧ GoodK TBSt K75 := mk2 ⟨fun _ => rfl, rfl⟩ gk128.2 (by kernel_rfl)
def s130 : Sg := ⟨[tI, tU], [], ⟨[(0, tU)], [], [], []⟩⟩
def f130 := fnx TBSt K75 130 ⟨lkp [], lkp [(6, ⟨[], [], [], []⟩), (13, ⟨[(13, tB)], [], [], []⟩)]⟩ s130
def K130 : CTab := kc 130 ⟨s130, f130⟩ K75
theorem gk130 : GoodC TBSt 130 ⟨s130, f130⟩ ∧ GoodK TBSt K130 := mk2 ⟨fun _ => rfl, rfl⟩ gk75.2 (by kernel_rfl)
def s180 : Sg := ⟨[], [], ⟨[(0, (.ty D5St))], [], [], []⟩⟩
def f180 := fnx TBSt K130 180 ⟨lkp [(0, (Hn.ty D5St)), (1, (Hn.ty D5St))], lkp []⟩ s180
def K180 : CTab := kc 180 ⟨s180, f180⟩ K130
theorem gk180 : GoodC TBSt 180 ⟨s180, f180⟩ ∧ GoodK TBSt K180 := mk2 ⟨fun _ => rfl, rfl⟩ gk130.2 (by kernel_rfl)
def s210 : Sg := ⟨[tB], [], ⟨[(0, tU)], [], [], []⟩⟩
def f210 := fnx TBSt K180 210 ⟨lkp [], lkp []⟩ s210
def K210 : CTab := kc 210 ⟨s210, f210⟩ K180
theorem gk210 : GoodC TBSt 210 ⟨s210, f210⟩ ∧ GoodK TBSt K210 := mk2 ⟨fun _ => rfl, rfl⟩ gk180.2 (by kernel_rfl)
def s211 : Sg := ⟨[tU], [], ⟨[(0, tU)], [], [], []⟩⟩
def f211 := fnx TBSt K210 211 ⟨lkp [], lkp []⟩ s211
def K211 : CTab := kc 211 ⟨s211, f211⟩ K210
theorem gk211 : GoodC TBSt 211 ⟨s211, f211⟩ ∧ GoodK TBSt K211 := mk2 ⟨fun _ => rfl, rfl⟩ gk210.2 (by kernel_rfl)
def s179 : Sg := ⟨[tI, tU, tU], [], ⟨[(0, tU)], [], [], []⟩⟩
def f179 := fnx TBSt K211 179 ⟨lkp [], lkp []⟩ s179
def K179 : CTab := kc 179 ⟨s179, f179⟩ K211
theorem gk179 : GoodC TBSt 179 ⟨s179, f179⟩ ∧ GoodK TBSt K179 := mk2 ⟨fun _ => rfl, rfl⟩ gk211.2 (by kernel_rfl)
def s131 : Sg := ⟨[(.ty D1St), tU, tU, tU], [], ⟨[(0, tU)], [], [], []⟩⟩
def f131 := fnx TBSt K179 131 ⟨lkp [], lkp []⟩ s131
def K131 : CTab := kc 131 ⟨s131, f131⟩ K179
theorem gk131 : GoodC TBSt 131 ⟨s131, f131⟩ ∧ GoodK TBSt K131 := mk2 ⟨fun _ => rfl, rfl⟩ gk179.2 (by kernel_rfl)
def s77 : Sg := ⟨[(.ty D3St), (.ty D1St), tU, tB], [], ⟨[(0, tU)], [], [], []⟩⟩
def f77 := fnx TBSt K131 77 ⟨lkp [], lkp []⟩ s77
def K77 : CTab := kc 77 ⟨s77, f77⟩ K131
theorem gk77 : GoodC TBSt 77 ⟨s77, f77⟩ ∧ GoodK TBSt K77 := mk2 ⟨fun _ => rfl, rfl⟩ gk131.2 (by kernel_rfl)
def s29 : Sg := ⟨[(.ty D3St), (.sla 0 .any), tU, tB], [⟨false, (.many (.int .u8))⟩], ⟨[(0, (.tup [(.ty D3St), (.ty D0St)]))], [], [], []⟩⟩
def f29 := fnx TBSt K77 29 ⟨lkp [(8, (Hn.ty D3St)), (9, (Hn.ty D0St)), (10, (Hn.ty D1St)), (12, (Hn.ty D0St)), (21, (Hn.ty D0St)), (33, (Hn.ty D0St))], lkp [(8, ⟨[], [(5, (.one (.ty D0St)))], [], []⟩), (16, ⟨[], [(5, (.one (.ty D0St)))], [], []⟩), (19, ⟨[], [(5, (.one (.ty D0St)))], [], []⟩), (20, ⟨[], [(5, (.one (.ty D0St)))], [], []⟩), (21, ⟨[(79, tB)], [], [], []⟩), (24, ⟨[], [(1, (.one (.segs [(.ty D3St)]))), (5, (.one (.ty D0St)))], [], []⟩)]⟩ s29
def K29 : CTab := kc 29 ⟨s29, f29⟩ K77
theorem gk29 : GoodC TBSt 29 ⟨s29, f29⟩ ∧ GoodK TBSt K29 := mk1 ⟨fun _ => rfl, rfl⟩ gk77.2 (by kernel_rfl)
def s67 : Sg := ⟨[tU, tI], [], ⟨[(0, (.sla 0 .yes))], [], [], [⟨true, (.many (.int .u8))⟩]⟩⟩
def f67 := fnx TBSt K29 67 ⟨lkp [(13, (Hn.ty (.int .u8)))], lkp [(5, ⟨[(0, tU), (5, (.sla 0 .yes)), (8, tI)], [], [], [⟨true, (.many (.int .u8))⟩]⟩)]⟩ s67
def K67 : CTab := kc 67 ⟨s67, f67⟩ K29
theorem gk67 : GoodC TBSt 67 ⟨s67, f67⟩ ∧ GoodK TBSt K67 := mk3 ⟨fun _ => rfl, rfl⟩ gk29.2 (by kernel_rfl)
def s87 : Sg := ⟨[(.ptr 0), (.ty D0St)], [⟨true, (.one (.segs [(.sla 1 .yes), tI, tI, tB]))⟩, ⟨true, (.many (.int .u8))⟩], ⟨[(0, (.tup []))], [(0, (.one (.segs [(.sla 2 .yes), tI, tI, tB])))], [1], [⟨true, (.many (.int .u8))⟩]⟩⟩
def f87 := fnx TBSt K67 87 ⟨lkp [], lkp [(7, ⟨[], [(0, (.one (.segs [(.sla 1 .yes), tI, tI, tB])))], [], []⟩), (12, ⟨[(44, tB)], [], [], []⟩)]⟩ s87
def K87 : CTab := kc 87 ⟨s87, f87⟩ K67
theorem gk87 : GoodC TBSt 87 ⟨s87, f87⟩ ∧ GoodK TBSt K87 := mk0 ⟨fun _ => rfl, rfl⟩ gk67.2 (by kernel_rfl)
def s31 : Sg := ⟨[(.ty D3St), (.sla 0 .any), tI], [⟨false, (.many (.int .u8))⟩], ⟨[(0, (.tup [(.ty D3St), (.sla 1 .yes), (.sla 2 .yes)]))], [], [], [⟨true, (.many (.int .u8))⟩, ⟨true, (.many D0St)⟩]⟩⟩
def f31 := fnx TBSt K87 31 ⟨lkp [(6, (Hn.ty D3St)), (13, (Hn.ty D0St)), (18, (.parts [none, some iI, some iI, some .bool])), (48, (Hn.ty D0St))], lkp [(7, ⟨[(10, (.sla 5 .yes))], [(1, (.one (.segs [(.ty D3St)]))), (4, (.one (.segs [(.sla 6 .yes), tI, tI, tB])))], [3], [⟨true, (.many D0St)⟩, ⟨true, (.many (.int .u8))⟩]⟩), (8, ⟨[(10, (.sla 5 .yes)), (23, tI)], [(1, (.one (.segs [(.ty D3St)]))), (4, (.one (.segs [(.sla 6 .yes), tI, tI, tB])))], [3], [⟨true, (.many D0St)⟩, ⟨true, (.many (.int .u8))⟩]⟩)]⟩ s31
def K31 : CTab := kc 31 ⟨s31, f31⟩ K87
theorem gk31 : GoodC TBSt 31 ⟨s31, f31⟩ ∧ GoodK TBSt K31 := mk0 ⟨fun _ => rfl, rfl⟩ gk87.2 (by kernel_rfl)
def s96 : Sg := ⟨[], [], ⟨[(0, (.sla 0 .yes))], [], [], [⟨true, (.many .str)⟩]⟩⟩
def f96 := fnx TBSt K31 96 ⟨lkp [(1, (Hn.ty .str))], lkp []⟩ s96
def K96 : CTab := kc 96 ⟨s96, f96⟩ K31
theorem gk96 : GoodC TBSt 96 ⟨s96, f96⟩ ∧ GoodK TBSt K96 := mk3 ⟨fun _ => rfl, rfl⟩ gk31.2 (by kernel_rfl)
def s47 : Sg := ⟨[tI], [], ⟨[(0, tS)], [], [], []⟩⟩
def f47 := fnx TBSt K96 47 ⟨lkp [], lkp [(3, ⟨[(12, tB)], [], [], []⟩)]⟩ s47
def K47 : CTab := kc 47 ⟨s47, f47⟩ K96
theorem gk47 : GoodC TBSt 47 ⟨s47, f47⟩ ∧ GoodK TBSt K47 := mk2 ⟨fun _ => rfl, rfl⟩ gk96.2 (by kernel_rfl)
def s40 : Sg := ⟨[tI], [], ⟨[(0, tI)], [], [], []⟩⟩
def f40 := fnx TBSt K47 40 ⟨lkp [(5, (Hn.ty iI))], lkp [(9, ⟨[(0, tI), (4, tI)], [], [], []⟩)]⟩ s40
def K40 : CTab := kc 40 ⟨s40, f40⟩ K47
theorem gk40 : GoodC TBSt 40 ⟨s40, f40⟩ ∧ GoodK TBSt K40 := mk2 ⟨fun _ => rfl, rfl⟩ gk47.2 (by kernel_rfl)
def s34 : Sg := ⟨[tI], [], ⟨[(0, tI)], [], [], []⟩⟩
def f34 := fnx TBSt K40 34 ⟨lkp [], lkp [(4, ⟨[(19, tB)], [], [], []⟩), (8, ⟨[(5, (.ty (.int .u8)))], [], [], []⟩)]⟩ s34
def K34 : CTab := kc 34 ⟨s34, f34⟩ K40
theorem gk34 : GoodC TBSt 34 ⟨s34, f34⟩ ∧ GoodK TBSt K34 := mk2 ⟨fun _ => rfl, rfl⟩ gk40.2 (by kernel_rfl)
def s35 : Sg := ⟨[tU, tI], [], ⟨[(0, tU)], [], [], []⟩⟩
def f35 := fnx TBSt K34 35 ⟨lkp [], lkp [(5, ⟨[(5, tU), (6, tI)], [], [], []⟩), (7, ⟨[(13, tB)], [], [], []⟩), (10, ⟨[(5, tU)], [], [], []⟩)]⟩ s35
def K35 : CTab := kc 35 ⟨s35, f35⟩ K34
theorem gk35 : GoodC TBSt 35 ⟨s35, f35⟩ ∧ GoodK TBSt K35 := mk2 ⟨fun _ => rfl, rfl⟩ gk34.2 (by kernel_rfl)
def s11 : Sg := ⟨[(.ty (.int .u8)), tU, (.ty (.int .u8))], [], ⟨[(0, tB)], [], [], []⟩⟩
def f11 := fnx TBSt K35 11 ⟨lkp [(14, (Hn.ty D3St)), (15, (Hn.ty D3St)), (29, (Hn.ty .str)), (40, (Hn.ty D3St))], lkp [(14, ⟨[(6, tB)], [], [], []⟩)]⟩ s11
def K11 : CTab := kc 11 ⟨s11, f11⟩ K35
theorem gk11 : GoodC TBSt 11 ⟨s11, f11⟩ ∧ GoodK TBSt K11 := mk2 ⟨fun _ => rfl, rfl⟩ gk35.2 (by kernel_rfl)
end
end Go.Proofs.YtkcfkegkhopakaaGreatDoor
