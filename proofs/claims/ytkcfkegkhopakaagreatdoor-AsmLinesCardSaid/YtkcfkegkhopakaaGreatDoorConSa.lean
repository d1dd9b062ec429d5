/- Contracts of functions, by their bodies and shapes. No condition. -/
import Derived.Test.YtkcfkegkhopakaaGreatDoorShX3
import Derived.Test.YtkcfkegkhopakaaGreatDoorKnSa
import Derived.KernelRfl
namespace Go.Proofs.YtkcfkegkhopakaaGreatDoor
open Go Go.Ev Go.Sh
set_option maxRecDepth 100000
set_option linter.unusedVariables false
abbrev D4Sa : Ty := .arr 8 iI
abbrev D3Sa : Ty := .arr 32 iI
abbrev D2Sa : Ty := .pair iI (.pair iI iI)
abbrev D1Sa : Ty := .pair (.int .u32) (.pair iI (.pair iI (.pair iI (.pair (.int .u32) (.int .u32)))))
abbrev D0Sa : Ty := .pair iI (.pair iI (.pair iI (.pair iI (.pair iI (.pair .bool (.pair .bool (.pair iI iI)))))))
def K0Sa : CTab := fun _ _ => none
theorem gk0Sa : True ∧ GoodK TBSa K0Sa := ⟨trivial, fun _ _ _ h => by cases h⟩
noncomputable section
def s18 : Sg := sgB
def f18 (N : Nat) (x : s18.inp) : Option s18.res := some true
def K18 : CTab := kc 18 ⟨s18, f18⟩ K0Sa
theorem gk18 : GoodC TBSa 18 ⟨s18, f18⟩ ∧ GoodK TBSa K18 := mkT rfl gk0Sa.2
def s55 : Sg := ⟨[(.sla 0 .any)], [⟨false, (.many (.int .u8))⟩], ⟨[(0, tU)], [], [], []⟩⟩
def f55 := fnx TBSa K18 55 ⟨lkp [], lkp [(5, ⟨[(3, tU), (4, tI)], [], [], []⟩)]⟩ s55
def K55 : CTab := kc 55 ⟨s55, f55⟩ K18
theorem gk55 : GoodC TBSa 55 ⟨s55, f55⟩ ∧ GoodK TBSa K55 := mk1 ⟨fun _ => rfl, rfl⟩ gk18.2 (by kernel_rfl)
def s70 : Sg := ⟨[tU, tI], [], ⟨[(0, tU)], [], [], []⟩⟩
def f70 := fnx TBSa K55 70 ⟨lkp [], lkp []⟩ s70
def K70 : CTab := kc 70 ⟨s70, f70⟩ K55
theorem gk70 : GoodC TBSa 70 ⟨s70, f70⟩ ∧ GoodK TBSa K70 := mk2 ⟨fun _ => rfl, rfl⟩ gk55.2 (by kernel_rfl)
def s168 : Sg := ⟨[(.ty (.int .u32)), tI, tI], [], ⟨[(0, (.ty (.int .u32)))], [], [], []⟩⟩
def f168 := fnx TBSa K70 168 ⟨lkp [], lkp [(2, ⟨[(17, tB)], [], [], []⟩)]⟩ s168
def K168 : CTab := kc 168 ⟨s168, f168⟩ K70
theorem gk168 : GoodC TBSa 168 ⟨s168, f168⟩ ∧ GoodK TBSa K168 := mk2 ⟨fun _ => rfl, rfl⟩ gk70.2 (by kernel_rfl)
def s167 : Sg := ⟨[tI, tI, (.ptr 0)], [⟨false, (.one (.segs [(.ty (.int .u32))]))⟩], ⟨[(0, (.ty (.int .u32)))], [], [], []⟩⟩
def f167 := fnx TBSa K168 167 ⟨lkp [], lkp []⟩ s167
def K167 : CTab := kc 167 ⟨s167, f167⟩ K168
theorem gk167 : GoodC TBSa 167 ⟨s167, f167⟩ ∧ GoodK TBSa K167 := mk1 ⟨fun _ => rfl, rfl⟩ gk168.2 (by kernel_rfl)
def s105 : Sg := ⟨[(.ty (.int .u32))], [], ⟨[(0, (.ty D1Sa))], [], [], []⟩⟩
def f105 := fnx TBSa K167 105 ⟨lkp [(2, (Hn.ty D1Sa)), (19, (Hn.ty D1Sa))], lkp []⟩ s105
def K105 : CTab := kc 105 ⟨s105, f105⟩ K167
theorem gk105 : GoodC TBSa 105 ⟨s105, f105⟩ ∧ GoodK TBSa K105 := mk2 ⟨fun _ => rfl, rfl⟩ gk167.2 (by kernel_rfl)
def s216 : Sg := ⟨[], [], ⟨[(0, (.segs [tI, tI, .nils, tI, tI, (.sla 0 .yes), tI, tI, (.sla 1 .yes), tI, tI, (.sla 2 .yes), tI, tI, (.sla 3 .yes), tI, tI, (.sla 4 .yes)]))], [], [], [⟨true, (.many D2Sa)⟩, ⟨true, (.many D2Sa)⟩, ⟨true, (.many D2Sa)⟩, ⟨true, (.many D2Sa)⟩, ⟨true, (.many D2Sa)⟩]⟩⟩
def f216 := fnx TBSa K105 216 ⟨lkp [(1, (Hn.ty D2Sa)), (2, (Hn.ty D2Sa)), (3, (.parts [some iI, some iI, none])), (4, (Hn.ty D2Sa)), (5, (Hn.ty D2Sa)), (6, (Hn.ty D2Sa)), (7, (.parts [some iI, some iI, none])), (8, (Hn.ty D2Sa)), (9, (Hn.ty D2Sa)), (10, (Hn.ty D2Sa)), (11, (Hn.ty D2Sa)), (12, (Hn.ty D2Sa)), (13, (.parts [some iI, some iI, none])), (14, (Hn.ty D2Sa)), (15, (Hn.ty D2Sa)), (16, (.parts [some iI, some iI, none])), (17, (Hn.ty D2Sa)), (18, (Hn.ty D2Sa)), (19, (Hn.ty D2Sa)), (20, (Hn.ty D2Sa)), (21, (Hn.ty D2Sa)), (22, (.parts [some iI, some iI, none]))], lkp []⟩ s216
def K216 : CTab := kc 216 ⟨s216, f216⟩ K105
theorem gk216 : GoodC TBSa 216 ⟨s216, f216⟩ ∧ GoodK TBSa K216 := mk0 ⟨fun _ => rfl, rfl⟩ gk105.2 (by kernel_rfl)
def s187 : Sg := ⟨[tI], [], ⟨[(0, (.tup [(.segs [tI, tI, (.sla 0 .yes)]), tB]))], [], [], [⟨true, (.many D2Sa)⟩]⟩⟩
def f187 := fnx TBSa K216 187 ⟨lkp [(2, (.parts [some iI, some iI, none])), (10, (.parts [some iI, some iI, none]))], lkp [(2, ⟨[(9, tB)], [], [], []⟩), (5, ⟨[(3, tB)], [(0, (.one (.segs [tI, tI, (.sla 1 .yes)])))], [], [⟨true, (.many D2Sa)⟩]⟩)]⟩ s187
def K187 : CTab := kc 187 ⟨s187, f187⟩ K216
theorem gk187 : GoodC TBSa 187 ⟨s187, f187⟩ ∧ GoodK TBSa K187 := mk0 ⟨fun _ => rfl, rfl⟩ gk216.2 (by kernel_rfl)
def s127 : Sg := ⟨[tU, tI], [], ⟨[(0, tU)], [], [], []⟩⟩
def f127 := fnx TBSa K187 127 ⟨lkp [], lkp [(2, ⟨[(10, tB)], [], [], []⟩)]⟩ s127
def K127 : CTab := kc 127 ⟨s127, f127⟩ K187
theorem gk127 : GoodC TBSa 127 ⟨s127, f127⟩ ∧ GoodK TBSa K127 := mk2 ⟨fun _ => rfl, rfl⟩ gk187.2 (by kernel_rfl)
def s159 : Sg := ⟨[tI, (.ty (.int .u32))], [], ⟨[(0, tI)], [], [], []⟩⟩
def f159 := fnx TBSa K127 159 ⟨lkp [(5, (.parts [some iI, some iI, none])), (9, (Hn.ty D2Sa))], lkp [(10, ⟨[(7, tU), (20, tI)], [], [], []⟩)]⟩ s159
def K159 : CTab := kc 159 ⟨s159, f159⟩ K127
theorem gk159 : GoodC TBSa 159 ⟨s159, f159⟩ ∧ GoodK TBSa K159 := mk2 ⟨fun _ => rfl, rfl⟩ gk127.2 (by kernel_rfl)
def s160 : Sg := ⟨[(.ty D1Sa)], [], ⟨[(0, (.tup [tI, tI]))], [], [], []⟩⟩
def f160 := fnx TBSa K159 160 ⟨lkp [(6, (Hn.ty D4Sa)), (41, (Hn.ty D4Sa))], lkp [(5, ⟨[(14, tB)], [], [], []⟩), (8, ⟨[(23, tB)], [], [], []⟩), (11, ⟨[(32, tB)], [], [], []⟩)]⟩ s160
def K160 : CTab := kc 160 ⟨s160, f160⟩ K159
theorem gk160 : GoodC TBSa 160 ⟨s160, f160⟩ ∧ GoodK TBSa K160 := mk2 ⟨fun _ => rfl, rfl⟩ gk159.2 (by kernel_rfl)
def s161 : Sg := ⟨[(.ty D1Sa)], [], ⟨[(0, (.tup [tI, tI]))], [], [], []⟩⟩
def f161 := fnx TBSa K160 161 ⟨lkp [], lkp [(6, ⟨[(11, tB)], [], [], []⟩), (9, ⟨[(22, tB)], [], [], []⟩), (12, ⟨[(33, tB)], [], [], []⟩)]⟩ s161
def K161 : CTab := kc 161 ⟨s161, f161⟩ K160
theorem gk161 : GoodC TBSa 161 ⟨s161, f161⟩ ∧ GoodK TBSa K161 := mk2 ⟨fun _ => rfl, rfl⟩ gk160.2 (by kernel_rfl)
def s162 : Sg := ⟨[], [], ⟨[(0, (.tup [(.ty D4Sa), (.ty D4Sa)]))], [], [], []⟩⟩
def f162 := fnx TBSa K161 162 ⟨lkp [(0, (Hn.ty D4Sa)), (1, (Hn.ty D4Sa)), (2, (Hn.ty D4Sa)), (3, (Hn.ty D4Sa))], lkp []⟩ s162
def K162 : CTab := kc 162 ⟨s162, f162⟩ K161
theorem gk162 : GoodC TBSa 162 ⟨s162, f162⟩ ∧ GoodK TBSa K162 := mk2 ⟨fun _ => rfl, rfl⟩ gk161.2 (by kernel_rfl)
def s163 : Sg := ⟨[(.ty D1Sa), (.ty D4Sa), (.ty D4Sa)], [], ⟨[(0, tI)], [], [], []⟩⟩
def f163 := fnx TBSa K162 163 ⟨lkp [], lkp []⟩ s163
def K163 : CTab := kc 163 ⟨s163, f163⟩ K162
theorem gk163 : GoodC TBSa 163 ⟨s163, f163⟩ ∧ GoodK TBSa K163 := mk2 ⟨fun _ => rfl, rfl⟩ gk162.2 (by kernel_rfl)
def s164 : Sg := ⟨[], [], ⟨[(0, (.tup [(.ty D4Sa), (.ty D4Sa)]))], [], [], []⟩⟩
def f164 := fnx TBSa K163 164 ⟨lkp [(0, (Hn.ty D4Sa)), (1, (Hn.ty D4Sa)), (2, (Hn.ty D4Sa)), (3, (Hn.ty D4Sa))], lkp []⟩ s164
def K164 : CTab := kc 164 ⟨s164, f164⟩ K163
theorem gk164 : GoodC TBSa 164 ⟨s164, f164⟩ ∧ GoodK TBSa K164 := mk2 ⟨fun _ => rfl, rfl⟩ gk163.2 (by kernel_rfl)
def s165 : Sg := ⟨[(.ty (.int .u32))], [], ⟨[(0, (.ty D0Sa))], [], [], []⟩⟩
def f165 := fnx TBSa K164 165 ⟨lkp [(2, (Hn.ty D0Sa)), (6, (Hn.ty D0Sa)), (13, (Hn.ty D0Sa))], lkp []⟩ s165
def K165 : CTab := kc 165 ⟨s165, f165⟩ K164
theorem gk165 : GoodC TBSa 165 ⟨s165, f165⟩ ∧ GoodK TBSa K165 := mk2 ⟨fun _ => rfl, rfl⟩ gk164.2 (by kernel_rfl)
def s166 : Sg := ⟨[(.ty D1Sa)], [], ⟨[(0, tI)], [], [], []⟩⟩
def f166 := fnx TBSa K165 166 ⟨lkp [], lkp [(4, ⟨[(3, tI)], [], [], []⟩), (31, ⟨[(32, tB)], [], [], []⟩)]⟩ s166
def K166 : CTab := kc 166 ⟨s166, f166⟩ K165
theorem gk166 : GoodC TBSa 166 ⟨s166, f166⟩ ∧ GoodK TBSa K166 := mk2 ⟨fun _ => rfl, rfl⟩ gk165.2 (by kernel_rfl)
def s104 : Sg := ⟨[(.ty D1Sa)], [], ⟨[(0, (.ty D0Sa))], [], [], []⟩⟩
def f104 := fnx TBSa K166 104 ⟨lkp [(2, (Hn.ty D0Sa)), (3, (Hn.ty D0Sa)), (4, (Hn.ty D4Sa)), (5, (Hn.ty D4Sa)), (6, (Hn.ty D4Sa)), (7, (Hn.ty D4Sa)), (8, (Hn.ty D4Sa)), (15, (Hn.ty D0Sa)), (52, (Hn.ty D4Sa))], lkp [(4, ⟨[], [(2, (.one (.ty D0Sa)))], [], []⟩), (44, ⟨[], [(2, (.one (.ty D0Sa)))], [], []⟩)]⟩ s104
def K104 : CTab := kc 104 ⟨s104, f104⟩ K166
theorem gk104 : GoodC TBSa 104 ⟨s104, f104⟩ ∧ GoodK TBSa K104 := mk2 ⟨fun _ => rfl, rfl⟩ gk166.2 (by kernel_rfl)
def s72 : Sg := ⟨[tI], [], ⟨[(0, tI)], [], [], []⟩⟩
def f72 := fnx TBSa K104 72 ⟨lkp [], lkp [(3, ⟨[(3, tB)], [], [], []⟩)]⟩ s72
def K72 : CTab := kc 72 ⟨s72, f72⟩ K104
theorem gk72 : GoodC TBSa 72 ⟨s72, f72⟩ ∧ GoodK TBSa K72 := mk2 ⟨fun _ => rfl, rfl⟩ gk104.2 (by kernel_rfl)
def s129 : Sg := ⟨[tI], [], ⟨[(0, tI)], [], [], []⟩⟩
def f129 := fnx TBSa K72 129 ⟨lkp [], lkp [(2, ⟨[(8, tB)], [], [], []⟩)]⟩ s129
def K129 : CTab := kc 129 ⟨s129, f129⟩ K72
theorem gk129 : GoodC TBSa 129 ⟨s129, f129⟩ ∧ GoodK TBSa K129 := mk2 ⟨fun _ => rfl, rfl⟩ gk72.2 (by kernel_rfl)
def s76 : Sg := ⟨[(.ty D0Sa)], [], ⟨[(0, tI)], [], [], []⟩⟩
def f76 := fnx TBSa K129 76 ⟨lkp [], lkp [(4, ⟨[(6, tB)], [], [], []⟩)]⟩ s76
def K76 : CTab := kc 76 ⟨s76, f76⟩ K129
theorem gk76 : GoodC TBSa 76 ⟨s76, f76⟩ ∧ GoodK TBSa K76 := mk2 ⟨fun _ => rfl, rfl⟩ gk129.2 (by kernel_rfl)
def s146 : Sg := ⟨[(.ty D0Sa)], [], ⟨[(0, (.sla 0 .yes))], [], [], [⟨true, (.many iI)⟩]⟩⟩
def f146 := fnx TBSa K76 146 ⟨lkp [(22, (Hn.ty iI)), (30, (Hn.ty iI)), (39, (Hn.ty iI)), (50, (Hn.ty iI))], lkp [(4, ⟨[(3, (.sla 1 .yes))], [], [], [⟨true, (.many iI)⟩]⟩), (5, ⟨[(10, tB)], [], [], []⟩), (15, ⟨[(23, tB)], [], [], []⟩), (29, ⟨[(4, (.sla 2 .yes)), (42, tI)], [], [], [⟨true, (.many iI)⟩]⟩), (34, ⟨[(4, (.sla 3 .yes))], [], [2], [⟨true, (.many iI)⟩]⟩)]⟩ s146
def K146 : CTab := kc 146 ⟨s146, f146⟩ K76
theorem gk146 : GoodC TBSa 146 ⟨s146, f146⟩ ∧ GoodK TBSa K146 := mk3 ⟨fun _ => rfl, rfl⟩ gk76.2 (by kernel_rfl)
def s92 : Sg := ⟨[(.ty D0Sa)], [], ⟨[(0, (.ty D0Sa))], [], [], []⟩⟩
def f92 := fnx TBSa K146 92 ⟨lkp [(2, (Hn.ty D0Sa)), (3, (Hn.ty D0Sa)), (4, (Hn.ty (.arr 4 .bool))), (9, (Hn.ty D0Sa)), (14, (Hn.ty (.arr 4 .bool)))], lkp [(2, ⟨[], [(0, (.one (.segs [(.ty D0Sa)])))], [], []⟩), (9, ⟨[(18, tI)], [(3, (.one (.ty (.arr 4 .bool))))], [], []⟩), (16, ⟨[], [(0, (.one (.segs [(.ty D0Sa)])))], [], []⟩), (19, ⟨[], [(0, (.one (.segs [(.ty D0Sa)])))], [], []⟩)]⟩ s92
def K92 : CTab := kc 92 ⟨s92, f92⟩ K146
theorem gk92 : GoodC TBSa 92 ⟨s92, f92⟩ ∧ GoodK TBSa K92 := mk2 ⟨fun _ => rfl, rfl⟩ gk146.2 (by kernel_rfl)
def s56 : Sg := ⟨[(.ty (.int .u32))], [], ⟨[(0, (.tup [(.ty D0Sa), tI]))], [], [], []⟩⟩
def f56 := fnx TBSa K92 56 ⟨lkp [(2, (Hn.ty D0Sa)), (4, (Hn.ty D0Sa)), (11, (Hn.ty D0Sa))], lkp []⟩ s56
def K56 : CTab := kc 56 ⟨s56, f56⟩ K92
theorem gk56 : GoodC TBSa 56 ⟨s56, f56⟩ ∧ GoodK TBSa K56 := mk2 ⟨fun _ => rfl, rfl⟩ gk92.2 (by kernel_rfl)
def s143 : Sg := ⟨[tI], [], ⟨[(0, tI)], [], [], []⟩⟩
def f143 := fnx TBSa K56 143 ⟨lkp [], lkp [(4, ⟨[(4, tB)], [], [], []⟩), (11, ⟨[(8, tB)], [], [], []⟩)]⟩ s143
def K143 : CTab := kc 143 ⟨s143, f143⟩ K56
theorem gk143 : GoodC TBSa 143 ⟨s143, f143⟩ ∧ GoodK TBSa K143 := mk2 ⟨fun _ => rfl, rfl⟩ gk56.2 (by kernel_rfl)
def s144 : Sg := ⟨[tI], [], ⟨[(0, tI)], [], [], []⟩⟩
def f144 := fnx TBSa K143 144 ⟨lkp [], lkp [(3, ⟨[], [], [], []⟩)]⟩ s144
def K144 : CTab := kc 144 ⟨s144, f144⟩ K143
theorem gk144 : GoodC TBSa 144 ⟨s144, f144⟩ ∧ GoodK TBSa K144 := mk2 ⟨fun _ => rfl, rfl⟩ gk143.2 (by kernel_rfl)
def s145 : Sg := ⟨[tI, tI], [], ⟨[(0, (.tup [(.ty (.int .u32)), tB]))], [], [], []⟩⟩
def f145 := fnx TBSa K144 145 ⟨lkp [(6, (.parts [some iI, some iI, none])), (10, (Hn.ty D2Sa))], lkp [(3, ⟨[(35, tB)], [], [], []⟩), (10, ⟨[(8, (.ty (.int .u32))), (39, tI)], [], [], []⟩)]⟩ s145
def K145 : CTab := kc 145 ⟨s145, f145⟩ K144
theorem gk145 : GoodC TBSa 145 ⟨s145, f145⟩ ∧ GoodK TBSa K145 := mk2 ⟨fun _ => rfl, rfl⟩ gk144.2 (by kernel_rfl)
def s91 : Sg := ⟨[(.ty D0Sa)], [], ⟨[(0, (.tup [(.ty (.int .u32)), tB]))], [], [], []⟩⟩
def f91 := fnx TBSa K145 91 ⟨lkp [], lkp [(5, ⟨[(2, (.ty (.int .u32))), (3, tB)], [], [], []⟩)]⟩ s91
def K91 : CTab := kc 91 ⟨s91, f91⟩ K145
theorem gk91 : GoodC TBSa 91 ⟨s91, f91⟩ ∧ GoodK TBSa K91 := mk2 ⟨fun _ => rfl, rfl⟩ gk145.2 (by kernel_rfl)
def s38 : Sg := ⟨[(.ty D0Sa)], [], ⟨[(0, tB)], [], [], []⟩⟩
def f38 := fnx TBSa K91 38 ⟨lkp [(75, (Hn.ty (.arr 3 iI)))], lkp [(5, ⟨[(16, tB)], [], [], []⟩), (16, ⟨[(2, tB)], [], [], []⟩), (19, ⟨[(2, tB)], [], [], []⟩), (23, ⟨[(76, tI)], [], [], []⟩), (30, ⟨[(84, tB)], [], [], []⟩), (33, ⟨[(2, tB)], [], [], []⟩)]⟩ s38
def K38 : CTab := kc 38 ⟨s38, f38⟩ K91
theorem gk38 : GoodC TBSa 38 ⟨s38, f38⟩ ∧ GoodK TBSa K38 := mk2 ⟨fun _ => rfl, rfl⟩ gk91.2 (by kernel_rfl)
def s107 : Sg := ⟨[tI], [], ⟨[(0, (.ty (.int .u32)))], [], [], []⟩⟩
def f107 := fnx TBSa K38 107 ⟨lkp [], lkp []⟩ s107
def K107 : CTab := kc 107 ⟨s107, f107⟩ K38
theorem gk107 : GoodC TBSa 107 ⟨s107, f107⟩ ∧ GoodK TBSa K107 := mk2 ⟨fun _ => rfl, rfl⟩ gk38.2 (by kernel_rfl)
def s71 : Sg := ⟨[tI], [], ⟨[(0, tI)], [], [], []⟩⟩
def f71 := fnx TBSa K107 71 ⟨lkp [], lkp [(4, ⟨[(4, tB)], [], [], []⟩), (11, ⟨[(8, tB)], [], [], []⟩), (18, ⟨[(12, tB)], [], [], []⟩), (29, ⟨[(18, tB)], [], [], []⟩)]⟩ s71
def K71 : CTab := kc 71 ⟨s71, f71⟩ K107
theorem gk71 : GoodC TBSa 71 ⟨s71, f71⟩ ∧ GoodK TBSa K71 := mk2 ⟨fun _ => rfl, rfl⟩ gk107.2 (by kernel_rfl)
def s108 : Sg := ⟨[tI], [], ⟨[(0, (.ty (.int .u32)))], [], [], []⟩⟩
def f108 := fnx TBSa K71 108 ⟨lkp [(7, (Hn.ty (.arr 6 (.int .u32))))], lkp [(13, ⟨[(21, tB)], [], [], []⟩), (27, ⟨[(29, tB)], [], [], []⟩), (36, ⟨[(34, tB)], [], [], []⟩), (41, ⟨[(37, tB)], [], [], []⟩), (46, ⟨[(40, tB)], [], [], []⟩), (51, ⟨[(43, tB)], [], [], []⟩), (68, ⟨[(52, tB)], [], [], []⟩), (73, ⟨[(55, tB)], [], [], []⟩)]⟩ s108
def K108 : CTab := kc 108 ⟨s108, f108⟩ K71
theorem gk108 : GoodC TBSa 108 ⟨s108, f108⟩ ∧ GoodK TBSa K108 := mk2 ⟨fun _ => rfl, rfl⟩ gk71.2 (by kernel_rfl)
def s109 : Sg := ⟨[tI], [], ⟨[(0, (.ty (.int .u32)))], [], [], []⟩⟩
def f109 := fnx TBSa K108 109 ⟨lkp [(3, (Hn.ty (.arr 9 (.int .u32)))), (12, (Hn.ty (.arr 9 (.int .u32))))], lkp [(17, ⟨[(20, tB)], [], [], []⟩)]⟩ s109
def K109 : CTab := kc 109 ⟨s109, f109⟩ K108
theorem gk109 : GoodC TBSa 109 ⟨s109, f109⟩ ∧ GoodK TBSa K109 := mk2 ⟨fun _ => rfl, rfl⟩ gk108.2 (by kernel_rfl)
def s110 : Sg := ⟨[tB, tI], [], ⟨[(0, (.ty (.int .u32)))], [], [], []⟩⟩
def f110 := fnx TBSa K109 110 ⟨lkp [], lkp []⟩ s110
def K110 : CTab := kc 110 ⟨s110, f110⟩ K109
theorem gk110 : GoodC TBSa 110 ⟨s110, f110⟩ ∧ GoodK TBSa K110 := mk2 ⟨fun _ => rfl, rfl⟩ gk109.2 (by kernel_rfl)
def s106 : Sg := ⟨[(.sla 0 .any)], [⟨false, (.many (.int .u32))⟩], ⟨[(0, (.ty (.int .u32)))], [], [], []⟩⟩
def f106 := fnx TBSa K110 106 ⟨lkp [], lkp [(5, ⟨[(3, (.ty (.int .u32))), (8, tI)], [], [], []⟩)]⟩ s106
def K106 : CTab := kc 106 ⟨s106, f106⟩ K110
theorem gk106 : GoodC TBSa 106 ⟨s106, f106⟩ ∧ GoodK TBSa K106 := mk1 ⟨fun _ => rfl, rfl⟩ gk110.2 (by kernel_rfl)
def s57 : Sg := ⟨[(.ty D0Sa)], [], ⟨[(0, (.tup [(.ty (.int .u32)), tI]))], [], [], []⟩⟩
def f57 := fnx TBSa K106 57 ⟨lkp [(51, (Hn.ty (.int .u32)))], lkp []⟩ s57
def K57 : CTab := kc 57 ⟨s57, f57⟩ K106
theorem gk57 : GoodC TBSa 57 ⟨s57, f57⟩ ∧ GoodK TBSa K57 := mk2 ⟨fun _ => rfl, rfl⟩ gk106.2 (by kernel_rfl)
def s89 : Sg := ⟨[tI, tI], [], ⟨[(0, tS)], [], [], []⟩⟩
def f89 : Nat → s89.inp → Option s89.res := fintS
def K89 : CTab := kc 89 ⟨s89, f89⟩ K57
theorem gk89 : GoodC TBSa 89 ⟨s89, f89⟩ ∧ GoodK TBSa K89 := mkL (good_fint (fun n b h => by show (bif (i64B n && decide ((b : Int) = 10)) then some (AV.str (itoaF n)) else none) = _; rw [h]; rfl)) (by decide) gk57.2
def s59 : Sg := ⟨[tI], [], ⟨[(0, tS)], [], [], []⟩⟩
def f59 : Nat → s59.inp → Option s59.res := itoaS
def K59 : CTab := kc 59 ⟨s59, f59⟩ K89
theorem gk59 : GoodC TBSa 59 ⟨s59, f59⟩ ∧ GoodK TBSa K59 := mkL (good_itoa (fun n h => by show (bif i64B n then some (AV.str (itoaF n)) else none) = _; rw [h]; rfl)) (by decide) gk89.2
def s147 : Sg := ⟨[tI], [], ⟨[(0, tS)], [], [], []⟩⟩
def f147 := fnx TBSa K59 147 ⟨lkp [], lkp []⟩ s147
def K147 : CTab := kc 147 ⟨s147, f147⟩ K59
theorem gk147 : GoodC TBSa 147 ⟨s147, f147⟩ ∧ GoodK TBSa K147 := mk2 ⟨fun _ => rfl, rfl⟩ gk59.2 (by kernel_rfl)
def s148 : Sg := ⟨[tI], [], ⟨[(0, tS)], [], [], []⟩⟩
def f148 := fnx TBSa K147 148 ⟨lkp [], lkp [(5, ⟨[(3, tS), (5, tI)], [], [], []⟩), (10, ⟨[(3, tS)], [], [], []⟩)]⟩ s148
def K148 : CTab := kc 148 ⟨s148, f148⟩ K147
theorem gk148 : GoodC TBSa 148 ⟨s148, f148⟩ ∧ GoodK TBSa K148 := mk2 ⟨fun _ => rfl, rfl⟩ gk147.2 (by kernel_rfl)
def s93 : Sg := ⟨[(.ty D0Sa)], [], ⟨[(0, (.sla 0 .yes))], [], [], [⟨true, (.many .str)⟩]⟩⟩
def f93 := fnx TBSa K148 93 ⟨lkp [(16, (Hn.ty .str)), (26, (Hn.ty .str)), (34, (Hn.ty .str)), (44, (Hn.ty .str)), (54, (Hn.ty .str)), (67, (Hn.ty .str)), (80, (Hn.ty .str)), (92, (Hn.ty .str)), (104, (Hn.ty .str)), (115, (Hn.ty .str)), (130, (Hn.ty .str))], lkp [(4, ⟨[], [], [], []⟩), (38, ⟨[(116, tB)], [], [], []⟩)]⟩ s93
def K93 : CTab := kc 93 ⟨s93, f93⟩ K148
theorem gk93 : GoodC TBSa 93 ⟨s93, f93⟩ ∧ GoodK TBSa K93 := mk3 ⟨fun _ => rfl, rfl⟩ gk148.2 (by kernel_rfl)
def s188 : Sg := ⟨[], [], ⟨[(0, (.ty (.arr 76 .str)))], [], [], []⟩⟩
def f188 := fnx TBSa K93 188 ⟨lkp [(0, (Hn.ty (.arr 76 .str))), (1, (Hn.ty (.arr 76 .str)))], lkp []⟩ s188
def K188 : CTab := kc 188 ⟨s188, f188⟩ K93
theorem gk188 : GoodC TBSa 188 ⟨s188, f188⟩ ∧ GoodK TBSa K188 := mk2 ⟨fun _ => rfl, rfl⟩ gk93.2 (by kernel_rfl)
def s149 : Sg := ⟨[tI], [], ⟨[(0, tS)], [], [], []⟩⟩
def f149 := fnx TBSa K188 149 ⟨lkp [], lkp []⟩ s149
def K149 : CTab := kc 149 ⟨s149, f149⟩ K188
theorem gk149 : GoodC TBSa 149 ⟨s149, f149⟩ ∧ GoodK TBSa K149 := mk2 ⟨fun _ => rfl, rfl⟩ gk188.2 (by kernel_rfl)
def s94 : Sg := ⟨[(.ty D0Sa)], [], ⟨[(0, tS)], [], [], []⟩⟩
def f94 := fnx TBSa K149 94 ⟨lkp [], lkp [(4, ⟨[(7, tB)], [], [], []⟩)]⟩ s94
def K94 : CTab := kc 94 ⟨s94, f94⟩ K149
theorem gk94 : GoodC TBSa 94 ⟨s94, f94⟩ ∧ GoodK TBSa K94 := mk2 ⟨fun _ => rfl, rfl⟩ gk149.2 (by kernel_rfl)
def s95 : Sg := sgJ
def f95 : Nat → s95.inp → Option s95.res := joinS
def K95 : CTab := kc 95 ⟨s95, f95⟩ K94
theorem gk95 : GoodC TBSa 95 ⟨s95, f95⟩ ∧ GoodK TBSa K95 := mkL (good_join (fun _ => rfl) rfl) (by decide) gk94.2
def s39 : Sg := ⟨[(.ty D0Sa)], [], ⟨[(0, tS)], [], [], []⟩⟩
def f39 := fnx TBSa K95 39 ⟨lkp [], lkp []⟩ s39
def K39 : CTab := kc 39 ⟨s39, f39⟩ K95
theorem gk39 : GoodC TBSa 39 ⟨s39, f39⟩ ∧ GoodK TBSa K39 := mk2 ⟨fun _ => rfl, rfl⟩ gk95.2 (by kernel_rfl)
def s13 : Sg := ⟨[(.ty D0Sa)], [], ⟨[(0, (.tup [tS, tI]))], [], [], []⟩⟩
def f13 := fnx TBSa K39 13 ⟨lkp [], lkp []⟩ s13
def K13 : CTab := kc 13 ⟨s13, f13⟩ K39
theorem gk13 : GoodC TBSa 13 ⟨s13, f13⟩ ∧ GoodK TBSa K13 := mk2 ⟨fun _ => rfl, rfl⟩ gk39.2 (by kernel_rfl)
def s58 : Sg := ⟨[tU, tI], [], ⟨[(0, tS)], [], [], []⟩⟩
def f58 : Nat → s58.inp → Option s58.res := fuintS
def K58 : CTab := kc 58 ⟨s58, f58⟩ K13
theorem gk58 : GoodC TBSa 58 ⟨s58, f58⟩ ∧ GoodK TBSa K58 := mkL (good_fuint (fun n b h => by show (bif (u64B n && decide ((b : Int) = 10)) then some (AV.str (fuF n)) else none) = _; rw [h]; rfl)) (by decide) gk13.2
def s20 : Sg := ⟨[(.sla 0 .any)], [⟨false, (.many (.int .u8))⟩], ⟨[(0, (.sla 1 .yes))], [], [], [⟨true, (.many .str)⟩]⟩⟩
def f20 := fnx TBSa K58 20 ⟨lkp [(5, (Hn.ty D0Sa)), (44, (Hn.ty .str)), (51, (Hn.ty .str)), (64, (Hn.ty .str))], lkp [(5, ⟨[(0, (.sla 1 .any)), (3, (.sla 2 .yes))], [], [], [⟨false, (.many (.int .u8))⟩, ⟨true, (.many .str)⟩]⟩), (10, ⟨[(3, (.sla 3 .yes))], [], [2], [⟨true, (.many .str)⟩]⟩), (12, ⟨[(3, (.sla 2 .yes))], [], [], []⟩), (24, ⟨[(3, (.sla 3 .yes)), (55, tI)], [], [2], [⟨true, (.many .str)⟩]⟩)]⟩ s20
def K20 : CTab := kc 20 ⟨s20, f20⟩ K58
theorem gk20 : GoodC TBSa 20 ⟨s20, f20⟩ ∧ GoodK TBSa K20 := mk3 ⟨fun _ => rfl, rfl⟩ gk58.2 (by kernel_rfl)
def s60 : Sg := ⟨[(.sla 0 .any)], [⟨false, (.many (.int .u8))⟩], ⟨[(0, tU)], [], [], []⟩⟩
def f60 := fnx TBSa K20 60 ⟨lkp [], lkp [(6, ⟨[(3, tU), (4, tU), (5, tI)], [], [], []⟩), (8, ⟨[(13, tB)], [], [], []⟩)]⟩ s60
def K60 : CTab := kc 60 ⟨s60, f60⟩ K20
theorem gk60 : GoodC TBSa 60 ⟨s60, f60⟩ ∧ GoodK TBSa K60 := mk1 ⟨fun _ => rfl, rfl⟩ gk20.2 (by kernel_rfl)
def s40 : Sg := ⟨[tI], [], ⟨[(0, tI)], [], [], []⟩⟩
def f40 := fnx TBSa K60 40 ⟨lkp [(5, (Hn.ty iI))], lkp [(9, ⟨[(0, tI), (4, tI)], [], [], []⟩)]⟩ s40
def K40 : CTab := kc 40 ⟨s40, f40⟩ K60
theorem gk40 : GoodC TBSa 40 ⟨s40, f40⟩ ∧ GoodK TBSa K40 := mk2 ⟨fun _ => rfl, rfl⟩ gk60.2 (by kernel_rfl)
def s96 : Sg := ⟨[], [], ⟨[(0, (.sla 0 .yes))], [], [], [⟨true, (.many .str)⟩]⟩⟩
def f96 := fnx TBSa K40 96 ⟨lkp [(1, (Hn.ty .str))], lkp []⟩ s96
def K96 : CTab := kc 96 ⟨s96, f96⟩ K40
theorem gk96 : GoodC TBSa 96 ⟨s96, f96⟩ ∧ GoodK TBSa K96 := mk3 ⟨fun _ => rfl, rfl⟩ gk40.2 (by kernel_rfl)
def s47 : Sg := ⟨[tI], [], ⟨[(0, tS)], [], [], []⟩⟩
def f47 := fnx TBSa K96 47 ⟨lkp [], lkp [(3, ⟨[(12, tB)], [], [], []⟩)]⟩ s47
def K47 : CTab := kc 47 ⟨s47, f47⟩ K96
theorem gk47 : GoodC TBSa 47 ⟨s47, f47⟩ ∧ GoodK TBSa K47 := mk2 ⟨fun _ => rfl, rfl⟩ gk96.2 (by kernel_rfl)
def s115 : Sg := ⟨[tI], [], ⟨[(0, (.ty (.int .u32)))], [], [], []⟩⟩
def f115 := fnx TBSa K47 115 ⟨lkp [], lkp [(31, ⟨[(39, tB)], [], [], []⟩), (37, ⟨[(48, tB)], [], [], []⟩)]⟩ s115
def K115 : CTab := kc 115 ⟨s115, f115⟩ K47
theorem gk115 : GoodC TBSa 115 ⟨s115, f115⟩ ∧ GoodK TBSa K115 := mk2 ⟨fun _ => rfl, rfl⟩ gk47.2 (by kernel_rfl)
def s116 : Sg := ⟨[tI], [], ⟨[(0, (.ty (.int .u32)))], [], [], []⟩⟩
def f116 := fnx TBSa K115 116 ⟨lkp [(12, (Hn.ty (.int .u32)))], lkp [(15, ⟨[(27, tB)], [], [], []⟩), (27, ⟨[(42, tB)], [], [], []⟩), (33, ⟨[(44, tB)], [], [], []⟩), (42, ⟨[(49, tB)], [], [], []⟩), (47, ⟨[(52, tB)], [], [], []⟩), (52, ⟨[(55, tB)], [], [], []⟩), (57, ⟨[(58, tB)], [], [], []⟩), (74, ⟨[(67, tB)], [], [], []⟩), (79, ⟨[(70, tB)], [], [], []⟩)]⟩ s116
def K116 : CTab := kc 116 ⟨s116, f116⟩ K115
theorem gk116 : GoodC TBSa 116 ⟨s116, f116⟩ ∧ GoodK TBSa K116 := mk2 ⟨fun _ => rfl, rfl⟩ gk115.2 (by kernel_rfl)
def s117 : Sg := ⟨[tI], [], ⟨[(0, tB)], [], [], []⟩⟩
def f117 := fnx TBSa K116 117 ⟨lkp [], lkp [(2, ⟨[(2, tB)], [], [], []⟩)]⟩ s117
def K117 : CTab := kc 117 ⟨s117, f117⟩ K116
theorem gk117 : GoodC TBSa 117 ⟨s117, f117⟩ ∧ GoodK TBSa K117 := mk2 ⟨fun _ => rfl, rfl⟩ gk116.2 (by kernel_rfl)
def s44 : Sg := ⟨[tI], [], ⟨[(0, tI)], [], [], []⟩⟩
def f44 := fnx TBSa K117 44 ⟨lkp [], lkp [(3, ⟨[(15, tB)], [], [], []⟩), (7, ⟨[(25, tB)], [], [], []⟩)]⟩ s44
def K44 : CTab := kc 44 ⟨s44, f44⟩ K117
theorem gk44 : GoodC TBSa 44 ⟨s44, f44⟩ ∧ GoodK TBSa K44 := mk2 ⟨fun _ => rfl, rfl⟩ gk117.2 (by kernel_rfl)
def s119 : Sg := ⟨[tI], [], ⟨[(0, (.ty (.int .u32)))], [], [], []⟩⟩
def f119 := fnx TBSa K44 119 ⟨lkp [(15, (Hn.ty (.int .u32)))], lkp [(2, ⟨[(8, tB)], [], [], []⟩), (6, ⟨[(14, tB)], [], [], []⟩)]⟩ s119
def K119 : CTab := kc 119 ⟨s119, f119⟩ K44
theorem gk119 : GoodC TBSa 119 ⟨s119, f119⟩ ∧ GoodK TBSa K119 := mk2 ⟨fun _ => rfl, rfl⟩ gk44.2 (by kernel_rfl)
def s113 : Sg := ⟨[(.ty (.int .u32)), tI], [], ⟨[(0, tB)], [], [], []⟩⟩
def f113 := fnx TBSa K119 113 ⟨lkp [], lkp [(9, ⟨[(25, tB)], [], [], []⟩), (14, ⟨[(4, tB)], [], [], []⟩), (17, ⟨[(4, tB)], [], [], []⟩), (23, ⟨[(9, (.ty (.int .u32)))], [], [], []⟩), (28, ⟨[(68, tB)], [], [], []⟩), (36, ⟨[(4, tB)], [], [], []⟩)]⟩ s113
def K113 : CTab := kc 113 ⟨s113, f113⟩ K119
theorem gk113 : GoodC TBSa 113 ⟨s113, f113⟩ ∧ GoodK TBSa K113 := mk2 ⟨fun _ => rfl, rfl⟩ gk119.2 (by kernel_rfl)
def s41 : Sg := ⟨[tI], [], ⟨[(0, tB)], [], [], []⟩⟩
def f41 := fnx TBSa K113 41 ⟨lkp [], lkp [(2, ⟨[(2, tB)], [], [], []⟩)]⟩ s41
def K41 : CTab := kc 41 ⟨s41, f41⟩ K113
theorem gk41 : GoodC TBSa 41 ⟨s41, f41⟩ ∧ GoodK TBSa K41 := mk2 ⟨fun _ => rfl, rfl⟩ gk113.2 (by kernel_rfl)
def s42 : Sg := ⟨[tI], [], ⟨[(0, tB)], [], [], []⟩⟩
def f42 := fnx TBSa K41 42 ⟨lkp [], lkp [(2, ⟨[(2, tB)], [], [], []⟩)]⟩ s42
def K42 : CTab := kc 42 ⟨s42, f42⟩ K41
theorem gk42 : GoodC TBSa 42 ⟨s42, f42⟩ ∧ GoodK TBSa K42 := mk2 ⟨fun _ => rfl, rfl⟩ gk41.2 (by kernel_rfl)
def s43 : Sg := ⟨[tI], [], ⟨[(0, tB)], [], [], []⟩⟩
def f43 := fnx TBSa K42 43 ⟨lkp [], lkp [(2, ⟨[(2, tB)], [], [], []⟩)]⟩ s43
def K43 : CTab := kc 43 ⟨s43, f43⟩ K42
theorem gk43 : GoodC TBSa 43 ⟨s43, f43⟩ ∧ GoodK TBSa K43 := mk2 ⟨fun _ => rfl, rfl⟩ gk42.2 (by kernel_rfl)
def s45 : Sg := ⟨[tI], [], ⟨[(0, tI)], [], [], []⟩⟩
def f45 := fnx TBSa K43 45 ⟨lkp [], lkp [(21, ⟨[(16, tB)], [], [], []⟩)]⟩ s45
def K45 : CTab := kc 45 ⟨s45, f45⟩ K43
theorem gk45 : GoodC TBSa 45 ⟨s45, f45⟩ ∧ GoodK TBSa K45 := mk2 ⟨fun _ => rfl, rfl⟩ gk43.2 (by kernel_rfl)
def s173 : Sg := ⟨[tI], [], ⟨[(0, (.ty D3Sa))], [], [], []⟩⟩
def f173 := fnx TBSa K45 173 ⟨lkp [(2, (Hn.ty D3Sa)), (3, (Hn.ty D3Sa))], lkp [(5, ⟨[(4, tI)], [(1, (.one (.ty D3Sa)))], [], []⟩), (14, ⟨[(5, tI)], [], [], []⟩), (21, ⟨[(5, tI)], [], [], []⟩), (24, ⟨[(28, tB)], [], [], []⟩), (28, ⟨[(5, tI)], [], [], []⟩), (31, ⟨[(5, tI)], [], [], []⟩), (34, ⟨[(5, tI)], [], [], []⟩), (35, ⟨[(42, tB)], [], [], []⟩), (37, ⟨[(50, tB)], [], [], []⟩), (45, ⟨[(5, tI)], [], [], []⟩), (48, ⟨[(5, tI)], [], [], []⟩), (49, ⟨[(67, tB)], [], [], []⟩), (51, ⟨[(5, tI)], [], [], []⟩), (54, ⟨[(76, tB)], [], [], []⟩)]⟩ s173
def K173 : CTab := kc 173 ⟨s173, f173⟩ K45
theorem gk173 : GoodC TBSa 173 ⟨s173, f173⟩ ∧ GoodK TBSa K173 := mk2 ⟨fun _ => rfl, rfl⟩ gk45.2 (by kernel_rfl)
def s114 : Sg := ⟨[tI, (.ty (.int .u32))], [], ⟨[(0, tI)], [], [], []⟩⟩
def f114 := fnx TBSa K173 114 ⟨lkp [(5, (Hn.ty D3Sa))], lkp [(6, ⟨[(6, tI), (7, tI)], [], [], []⟩), (11, ⟨[(6, tI)], [], [], []⟩), (13, ⟨[(25, tB)], [], [], []⟩)]⟩ s114
def K114 : CTab := kc 114 ⟨s114, f114⟩ K173
theorem gk114 : GoodC TBSa 114 ⟨s114, f114⟩ ∧ GoodK TBSa K114 := mk2 ⟨fun _ => rfl, rfl⟩ gk173.2 (by kernel_rfl)
def s61 : Sg := ⟨[(.ty (.int .u32))], [], ⟨[(0, (.tup [(.ty D0Sa), tB]))], [], [], []⟩⟩
def f61 := fnx TBSa K114 61 ⟨lkp [(2, (Hn.ty D0Sa)), (5, (Hn.ty D0Sa)), (15, (Hn.ty D0Sa)), (91, (Hn.ty D0Sa))], lkp [(4, ⟨[(4, tI)], [], [], []⟩), (14, ⟨[], [(1, (.one (.ty D0Sa)))], [], []⟩), (17, ⟨[], [(1, (.one (.ty D0Sa)))], [], []⟩), (20, ⟨[], [(1, (.one (.ty D0Sa)))], [], []⟩), (23, ⟨[], [(1, (.one (.ty D0Sa)))], [], []⟩), (26, ⟨[], [(1, (.one (.ty D0Sa)))], [], []⟩), (29, ⟨[], [(1, (.one (.ty D0Sa)))], [], []⟩), (32, ⟨[], [(1, (.one (.ty D0Sa)))], [], []⟩), (36, ⟨[], [(1, (.one (.ty D0Sa)))], [], []⟩), (40, ⟨[], [(1, (.one (.ty D0Sa)))], [], []⟩)]⟩ s61
def K61 : CTab := kc 61 ⟨s61, f61⟩ K114
theorem gk61 : GoodC TBSa 61 ⟨s61, f61⟩ ∧ GoodK TBSa K61 := mk2 ⟨fun _ => rfl, rfl⟩ gk114.2 (by kernel_rfl)
def s118 : Sg := ⟨[tI, tI], [], ⟨[(0, (.ty (.int .u32)))], [], [], []⟩⟩
def f118 := fnx TBSa K61 118 ⟨lkp [(5, (Hn.ty D3Sa))], lkp [(6, ⟨[(6, (.ty (.int .u32))), (7, tI)], [], [], []⟩), (11, ⟨[(6, (.ty (.int .u32)))], [], [], []⟩), (12, ⟨[(28, tB)], [], [], []⟩)]⟩ s118
def K118 : CTab := kc 118 ⟨s118, f118⟩ K61
theorem gk118 : GoodC TBSa 118 ⟨s118, f118⟩ ∧ GoodK TBSa K118 := mk2 ⟨fun _ => rfl, rfl⟩ gk61.2 (by kernel_rfl)
def s62 : Sg := ⟨[(.ty D0Sa)], [], ⟨[(0, (.ty (.int .u32)))], [], [], []⟩⟩
def f62 := fnx TBSa K118 62 ⟨lkp [], lkp [(3, ⟨[(4, (.ty (.int .u32)))], [], [], []⟩), (6, ⟨[(4, (.ty (.int .u32)))], [], [], []⟩), (9, ⟨[(4, (.ty (.int .u32)))], [], [], []⟩), (14, ⟨[(4, (.ty (.int .u32)))], [], [], []⟩), (18, ⟨[(4, (.ty (.int .u32)))], [], [], []⟩)]⟩ s62
def K62 : CTab := kc 62 ⟨s62, f62⟩ K118
theorem gk62 : GoodC TBSa 62 ⟨s62, f62⟩ ∧ GoodK TBSa K62 := mk2 ⟨fun _ => rfl, rfl⟩ gk118.2 (by kernel_rfl)
def s48 : Sg := ⟨[tI], [], ⟨[(0, tS)], [], [], []⟩⟩
def f48 := fnx TBSa K62 48 ⟨lkp [(15, (Hn.ty (.int .u8)))], lkp [(3, ⟨[(4, tU)], [], [], []⟩), (8, ⟨[(3, tS), (4, tU)], [], [], []⟩), (14, ⟨[(3, tS)], [], [], []⟩)]⟩ s48
def K48 : CTab := kc 48 ⟨s48, f48⟩ K62
theorem gk48 : GoodC TBSa 48 ⟨s48, f48⟩ ∧ GoodK TBSa K48 := mk2 ⟨fun _ => rfl, rfl⟩ gk62.2 (by kernel_rfl)
def s49 : Sg := ⟨[tI], [], ⟨[(0, tS)], [], [], []⟩⟩
def f49 := fnx TBSa K48 49 ⟨lkp [], lkp [(2, ⟨[(3, tS)], [], [], []⟩), (5, ⟨[(3, tS)], [], [], []⟩), (8, ⟨[(3, tS)], [], [], []⟩), (11, ⟨[(3, tS)], [], [], []⟩)]⟩ s49
def K49 : CTab := kc 49 ⟨s49, f49⟩ K48
theorem gk49 : GoodC TBSa 49 ⟨s49, f49⟩ ∧ GoodK TBSa K49 := mk2 ⟨fun _ => rfl, rfl⟩ gk48.2 (by kernel_rfl)
def s15 : Sg := ⟨[(.ty D0Sa)], [], ⟨[(0, tS)], [], [], []⟩⟩
def f15 := fnx TBSa K49 15 ⟨lkp [], lkp [(3, ⟨[(4, tS)], [], [], []⟩), (4, ⟨[(20, tB)], [], [], []⟩), (6, ⟨[(4, tS)], [], [], []⟩), (9, ⟨[(4, tS)], [], [], []⟩), (15, ⟨[(46, tB)], [], [], []⟩), (18, ⟨[(61, tB)], [], [], []⟩)]⟩ s15
def K15 : CTab := kc 15 ⟨s15, f15⟩ K49
theorem gk15 : GoodC TBSa 15 ⟨s15, f15⟩ ∧ GoodK TBSa K15 := mk2 ⟨fun _ => rfl, rfl⟩ gk49.2 (by kernel_rfl)
def s21 : Sg := ⟨[(.sla 0 .any)], [⟨false, (.many (.int .u8))⟩], ⟨[(0, (.sla 1 .yes))], [], [], [⟨true, (.many .str)⟩]⟩⟩
def f21 := fnx TBSa K15 21 ⟨lkp [(5, (Hn.ty D0Sa)), (30, (Hn.ty .str)), (37, (Hn.ty .str)), (55, (Hn.ty .str))], lkp [(4, ⟨[(0, (.sla 1 .any)), (3, (.sla 2 .yes))], [], [], [⟨false, (.many (.int .u8))⟩, ⟨true, (.many .str)⟩]⟩), (11, ⟨[(3, (.sla 4 .yes))], [], [2], [⟨true, (.many .str)⟩]⟩), (12, ⟨[(26, tB)], [], [], []⟩), (17, ⟨[(3, (.sla 3 .yes)), (7, tI)], [], [2], [⟨true, (.many .str)⟩]⟩)]⟩ s21
def K21 : CTab := kc 21 ⟨s21, f21⟩ K15
theorem gk21 : GoodC TBSa 21 ⟨s21, f21⟩ ∧ GoodK TBSa K21 := mk3 ⟨fun _ => rfl, rfl⟩ gk15.2 (by kernel_rfl)
def s19 : Sg := ⟨[(.sla 0 .any), (.sla 1 .any)], [⟨false, (.many .str)⟩, ⟨false, (.many .str)⟩], ⟨[(0, tB)], [], [], []⟩⟩
def f19 := fnx TBSa K21 19 ⟨lkp [], lkp [(8, ⟨[(5, tI)], [], [], []⟩)]⟩ s19
def K19 : CTab := kc 19 ⟨s19, f19⟩ K21
theorem gk19 : GoodC TBSa 19 ⟨s19, f19⟩ ∧ GoodK TBSa K19 := mk1 ⟨fun _ => rfl, rfl⟩ gk21.2 (by kernel_rfl)
def s22 : Sg := ⟨[tS], [], ⟨[(0, tB)], [], [], []⟩⟩
def f22 := fnx TBSa K19 22 ⟨lkp [], lkp [(4, ⟨[(8, tI)], [], [], []⟩), (12, ⟨[(5, tB)], [], [], []⟩), (13, ⟨[(37, tB)], [], [], []⟩), (16, ⟨[(2, tB)], [], [], []⟩)]⟩ s22
def K22 : CTab := kc 22 ⟨s22, f22⟩ K19
theorem gk22 : GoodC TBSa 22 ⟨s22, f22⟩ ∧ GoodK TBSa K22 := mk2 ⟨fun _ => rfl, rfl⟩ gk19.2 (by kernel_rfl)
def s23 : Sg := ⟨[tS], [], ⟨[(0, tB)], [], [], []⟩⟩
def f23 := fnx TBSa K22 23 ⟨lkp [], lkp [(2, ⟨[(12, tB)], [], [], []⟩), (8, ⟨[(3, tI)], [], [], []⟩), (16, ⟨[(43, tB)], [], [], []⟩)]⟩ s23
def K23 : CTab := kc 23 ⟨s23, f23⟩ K22
theorem gk23 : GoodC TBSa 23 ⟨s23, f23⟩ ∧ GoodK TBSa K23 := mk2 ⟨fun _ => rfl, rfl⟩ gk22.2 (by kernel_rfl)
def s5 : Sg := ⟨[(.sla 0 .any), tS], [⟨false, (.many (.int .u8))⟩], ⟨[(0, tB)], [], [], []⟩⟩
def f5 := fnx TBSa K23 5 ⟨lkp [], lkp [(6, ⟨[(14, tB)], [], [], []⟩), (9, ⟨[(4, tB)], [], [], []⟩)]⟩ s5
def K5 : CTab := kc 5 ⟨s5, f5⟩ K23
theorem gk5 : GoodC TBSa 5 ⟨s5, f5⟩ ∧ GoodK TBSa K5 := mk1 ⟨fun _ => rfl, rfl⟩ gk23.2 (by kernel_rfl)
def s34 : Sg := ⟨[tI], [], ⟨[(0, tI)], [], [], []⟩⟩
def f34 := fnx TBSa K5 34 ⟨lkp [], lkp [(4, ⟨[(19, tB)], [], [], []⟩), (8, ⟨[(5, (.ty (.int .u8)))], [], [], []⟩)]⟩ s34
def K34 : CTab := kc 34 ⟨s34, f34⟩ K5
theorem gk34 : GoodC TBSa 34 ⟨s34, f34⟩ ∧ GoodK TBSa K34 := mk2 ⟨fun _ => rfl, rfl⟩ gk5.2 (by kernel_rfl)
def s69 : Sg := ⟨[tI], [], ⟨[(0, tB)], [], [], []⟩⟩
def f69 := fnx TBSa K34 69 ⟨lkp [], lkp [(4, ⟨[(5, tB)], [], [], []⟩)]⟩ s69
def K69 : CTab := kc 69 ⟨s69, f69⟩ K34
theorem gk69 : GoodC TBSa 69 ⟨s69, f69⟩ ∧ GoodK TBSa K69 := mk2 ⟨fun _ => rfl, rfl⟩ gk34.2 (by kernel_rfl)
def s73 : Sg := ⟨[tI], [], ⟨[(0, tB)], [], [], []⟩⟩
def f73 := fnx TBSa K69 73 ⟨lkp [], lkp [(4, ⟨[(5, tB)], [], [], []⟩)]⟩ s73
def K73 : CTab := kc 73 ⟨s73, f73⟩ K69
theorem gk73 : GoodC TBSa 73 ⟨s73, f73⟩ ∧ GoodK TBSa K73 := mk2 ⟨fun _ => rfl, rfl⟩ gk69.2 (by kernel_rfl)
def s123 : Sg := ⟨[tI], [], ⟨[(0, tB)], [], [], []⟩⟩
def f123 := fnx TBSa K73 123 ⟨lkp [], lkp []⟩ s123
def K123 : CTab := kc 123 ⟨s123, f123⟩ K73
theorem gk123 : GoodC TBSa 123 ⟨s123, f123⟩ ∧ GoodK TBSa K123 := mk2 ⟨fun _ => rfl, rfl⟩ gk73.2 (by kernel_rfl)
def s135 : Sg := ⟨[tI], [], ⟨[(0, tI)], [], [], []⟩⟩
def f135 := fnx TBSa K123 135 ⟨lkp [], lkp [(2, ⟨[(8, tB)], [], [], []⟩)]⟩ s135
def K135 : CTab := kc 135 ⟨s135, f135⟩ K123
theorem gk135 : GoodC TBSa 135 ⟨s135, f135⟩ ∧ GoodK TBSa K135 := mk2 ⟨fun _ => rfl, rfl⟩ gk123.2 (by kernel_rfl)
def s82 : Sg := ⟨[(.ty D0Sa)], [], ⟨[(0, tI)], [], [], []⟩⟩
def f82 := fnx TBSa K135 82 ⟨lkp [], lkp []⟩ s82
def K82 : CTab := kc 82 ⟨s82, f82⟩ K135
theorem gk82 : GoodC TBSa 82 ⟨s82, f82⟩ ∧ GoodK TBSa K82 := mk2 ⟨fun _ => rfl, rfl⟩ gk135.2 (by kernel_rfl)
end
end Go.Proofs.YtkcfkegkhopakaaGreatDoor
