/- Contracts of functions, by their bodies and shapes. No condition. -/
import Derived.Test.YtkcfkegkhopakaaGreatDoorShX3
import Derived.Test.YtkcfkegkhopakaaGreatDoorKnSt
import Derived.KernelRfl
namespace Go.Proofs.YtkcfkegkhopakaaGreatDoor
open Go Go.Ev Go.Sh
set_option maxRecDepth 100000
set_option linter.unusedVariables false
def K0St : CTab := fun _ _ => none
theorem gk0St : GoodK TBSt K0St := fun _ _ _ h => by cases h
def s26 : Sg := ⟨[], [], ⟨[(0, (.ty .bool))], [], [], []⟩⟩
def f26 (N : Nat) (x : s26.inp) : Option s26.res := some true
noncomputable def c26 : Ctr := ⟨s26, f26⟩
theorem gc26 : GoodC TBSt 26 c26 := good_true rfl
noncomputable def K26 : CTab := fun f svs => bif f.beq 26 then some c26 else K0St f svs
theorem gk26 : GoodK TBSt K26 := by
  intro f svs c h
  unfold K26 at h
  cases hf : f.beq 26 with
  | false => rw [hf] at h; exact gk0St f svs c h
  | true =>
    obtain rfl := Nat.eq_of_beq_eq_true hf
    rw [hf, cond_true] at h
    obtain rfl := Option.some.inj h
    exact ⟨gc26, by kernel_rfl⟩
def h55 (t : Nat) : Option Hn :=
  none
def a55 (i : Nat) : Option Shape :=
  bif i.beq 5 then some ⟨[(3, (.ty (.int .u64))), (4, (.ty (.int .i64)))], [], [], []⟩ else none
def s55 : Sg := ⟨[(.sla 0 .any)], [⟨false, (.many (.int .u8))⟩], ⟨[(0, (.ty (.int .u64)))], [], [], []⟩⟩
noncomputable def f55 (N : Nat) (x : s55.inp) : Option s55.res := fnS N K26 t55 ⟨h55, a55⟩ s55 x
noncomputable def c55 : Ctr := ⟨s55, f55⟩
theorem gc55 : GoodC TBSt 55 c55 := good1 (T := TBSt) (f := 55) (K := K26) (c := c55) (F := t55) (nt := ⟨h55, a55⟩) ⟨fun _ => rfl, rfl⟩ gk26 (by kernel_rfl) rfl (by kernel_rfl) (by kernel_rfl) (by intro N x; kernel_rfl)
noncomputable def K55 : CTab := fun f svs => bif f.beq 55 then some c55 else K26 f svs
theorem gk55 : GoodK TBSt K55 := by
  intro f svs c h
  unfold K55 at h
  cases hf : f.beq 55 with
  | false => rw [hf] at h; exact gk26 f svs c h
  | true =>
    obtain rfl := Nat.eq_of_beq_eq_true hf
    rw [hf, cond_true] at h
    obtain rfl := Option.some.inj h
    exact ⟨gc55, by kernel_rfl⟩
def h70 (t : Nat) : Option Hn :=
  none
def a70 (i : Nat) : Option Shape :=
  none
def s70 : Sg := ⟨[(.ty (.int .u64)), (.ty (.int .i64))], [], ⟨[(0, (.ty (.int .u64)))], [], [], []⟩⟩
noncomputable def f70 (N : Nat) (x : s70.inp) : Option s70.res := fnS N K55 t70 ⟨h70, a70⟩ s70 x
noncomputable def c70 : Ctr := ⟨s70, f70⟩
theorem gc70 : GoodC TBSt 70 c70 := good2 (T := TBSt) (f := 70) (K := K55) (c := c70) (F := t70) (nt := ⟨h70, a70⟩) ⟨fun _ => rfl, rfl⟩ gk55 (by kernel_rfl) rfl (by kernel_rfl) (by kernel_rfl) rfl (by kernel_rfl) (by intro N x; kernel_rfl)
noncomputable def K70 : CTab := fun f svs => bif f.beq 70 then some c70 else K55 f svs
theorem gk70 : GoodK TBSt K70 := by
  intro f svs c h
  unfold K70 at h
  cases hf : f.beq 70 with
  | false => rw [hf] at h; exact gk55 f svs c h
  | true =>
    obtain rfl := Nat.eq_of_beq_eq_true hf
    rw [hf, cond_true] at h
    obtain rfl := Option.some.inj h
    exact ⟨gc70, by kernel_rfl⟩
def h168 (t : Nat) : Option Hn :=
  none
def a168 (i : Nat) : Option Shape :=
  bif i.beq 2 then some ⟨[(17, (.ty .bool))], [], [], []⟩ else none
def s168 : Sg := ⟨[(.ty (.int .u32)), (.ty (.int .i64)), (.ty (.int .i64))], [], ⟨[(0, (.ty (.int .u32)))], [], [], []⟩⟩
noncomputable def f168 (N : Nat) (x : s168.inp) : Option s168.res := fnS N K70 t168 ⟨h168, a168⟩ s168 x
noncomputable def c168 : Ctr := ⟨s168, f168⟩
theorem gc168 : GoodC TBSt 168 c168 := good2 (T := TBSt) (f := 168) (K := K70) (c := c168) (F := t168) (nt := ⟨h168, a168⟩) ⟨fun _ => rfl, rfl⟩ gk70 (by kernel_rfl) rfl (by kernel_rfl) (by kernel_rfl) rfl (by kernel_rfl) (by intro N x; kernel_rfl)
noncomputable def K168 : CTab := fun f svs => bif f.beq 168 then some c168 else K70 f svs
theorem gk168 : GoodK TBSt K168 := by
  intro f svs c h
  unfold K168 at h
  cases hf : f.beq 168 with
  | false => rw [hf] at h; exact gk70 f svs c h
  | true =>
    obtain rfl := Nat.eq_of_beq_eq_true hf
    rw [hf, cond_true] at h
    obtain rfl := Option.some.inj h
    exact ⟨gc168, by kernel_rfl⟩
def h167 (t : Nat) : Option Hn :=
  none
def a167 (i : Nat) : Option Shape :=
  none
def s167 : Sg := ⟨[(.ty (.int .i64)), (.ty (.int .i64)), (.ptr 0)], [⟨false, (.one (.segs [(.ty (.int .u32))]))⟩], ⟨[(0, (.ty (.int .u32)))], [], [], []⟩⟩
noncomputable def f167 (N : Nat) (x : s167.inp) : Option s167.res := fnS N K168 t167 ⟨h167, a167⟩ s167 x
noncomputable def c167 : Ctr := ⟨s167, f167⟩
theorem gc167 : GoodC TBSt 167 c167 := good1 (T := TBSt) (f := 167) (K := K168) (c := c167) (F := t167) (nt := ⟨h167, a167⟩) ⟨fun _ => rfl, rfl⟩ gk168 (by kernel_rfl) rfl (by kernel_rfl) (by kernel_rfl) (by intro N x; kernel_rfl)
noncomputable def K167 : CTab := fun f svs => bif f.beq 167 then some c167 else K168 f svs
theorem gk167 : GoodK TBSt K167 := by
  intro f svs c h
  unfold K167 at h
  cases hf : f.beq 167 with
  | false => rw [hf] at h; exact gk168 f svs c h
  | true =>
    obtain rfl := Nat.eq_of_beq_eq_true hf
    rw [hf, cond_true] at h
    obtain rfl := Option.some.inj h
    exact ⟨gc167, by kernel_rfl⟩
def h105 (t : Nat) : Option Hn :=
  bif t.beq 2 then some (.ty (.pair (.int .u32) (.pair (.int .i64) (.pair (.int .i64) (.pair (.int .i64) (.pair (.int .u32) (.int .u32))))))) else bif t.beq 19 then some (.ty (.pair (.int .u32) (.pair (.int .i64) (.pair (.int .i64) (.pair (.int .i64) (.pair (.int .u32) (.int .u32))))))) else none
def a105 (i : Nat) : Option Shape :=
  none
def s105 : Sg := ⟨[(.ty (.int .u32))], [], ⟨[(0, (.ty (.pair (.int .u32) (.pair (.int .i64) (.pair (.int .i64) (.pair (.int .i64) (.pair (.int .u32) (.int .u32))))))))], [], [], []⟩⟩
noncomputable def f105 (N : Nat) (x : s105.inp) : Option s105.res := fnS N K167 t105 ⟨h105, a105⟩ s105 x
noncomputable def c105 : Ctr := ⟨s105, f105⟩
theorem gc105 : GoodC TBSt 105 c105 := good2 (T := TBSt) (f := 105) (K := K167) (c := c105) (F := t105) (nt := ⟨h105, a105⟩) ⟨fun _ => rfl, rfl⟩ gk167 (by kernel_rfl) rfl (by kernel_rfl) (by kernel_rfl) rfl (by kernel_rfl) (by intro N x; kernel_rfl)
noncomputable def K105 : CTab := fun f svs => bif f.beq 105 then some c105 else K167 f svs
theorem gk105 : GoodK TBSt K105 := by
  intro f svs c h
  unfold K105 at h
  cases hf : f.beq 105 with
  | false => rw [hf] at h; exact gk167 f svs c h
  | true =>
    obtain rfl := Nat.eq_of_beq_eq_true hf
    rw [hf, cond_true] at h
    obtain rfl := Option.some.inj h
    exact ⟨gc105, by kernel_rfl⟩
def h216 (t : Nat) : Option Hn :=
  bif t.beq 1 then some (.ty (.pair (.int .i64) (.pair (.int .i64) (.int .i64)))) else bif t.beq 2 then some (.ty (.pair (.int .i64) (.pair (.int .i64) (.int .i64)))) else bif t.beq 3 then some (.parts [some (.int .i64), some (.int .i64), none]) else bif t.beq 4 then some (.ty (.pair (.int .i64) (.pair (.int .i64) (.int .i64)))) else bif t.beq 5 then some (.ty (.pair (.int .i64) (.pair (.int .i64) (.int .i64)))) else bif t.beq 6 then some (.ty (.pair (.int .i64) (.pair (.int .i64) (.int .i64)))) else bif t.beq 7 then some (.parts [some (.int .i64), some (.int .i64), none]) else bif t.beq 8 then some (.ty (.pair (.int .i64) (.pair (.int .i64) (.int .i64)))) else bif t.beq 9 then some (.ty (.pair (.int .i64) (.pair (.int .i64) (.int .i64)))) else bif t.beq 10 then some (.ty (.pair (.int .i64) (.pair (.int .i64) (.int .i64)))) else bif t.beq 11 then some (.ty (.pair (.int .i64) (.pair (.int .i64) (.int .i64)))) else bif t.beq 12 then some (.ty (.pair (.int .i64) (.pair (.int .i64) (.int .i64)))) else bif t.beq 13 then some (.parts [some (.int .i64), some (.int .i64), none]) else bif t.beq 14 then some (.ty (.pair (.int .i64) (.pair (.int .i64) (.int .i64)))) else bif t.beq 15 then some (.ty (.pair (.int .i64) (.pair (.int .i64) (.int .i64)))) else bif t.beq 16 then some (.parts [some (.int .i64), some (.int .i64), none]) else bif t.beq 17 then some (.ty (.pair (.int .i64) (.pair (.int .i64) (.int .i64)))) else bif t.beq 18 then some (.ty (.pair (.int .i64) (.pair (.int .i64) (.int .i64)))) else bif t.beq 19 then some (.ty (.pair (.int .i64) (.pair (.int .i64) (.int .i64)))) else bif t.beq 20 then some (.ty (.pair (.int .i64) (.pair (.int .i64) (.int .i64)))) else bif t.beq 21 then some (.ty (.pair (.int .i64) (.pair (.int .i64) (.int .i64)))) else bif t.beq 22 then some (.parts [some (.int .i64), some (.int .i64), none]) else none
def a216 (i : Nat) : Option Shape :=
  none
def s216 : Sg := ⟨[], [], ⟨[(0, (.segs [(.ty (.int .i64)), (.ty (.int .i64)), .nils, (.ty (.int .i64)), (.ty (.int .i64)), (.sla 0 .yes), (.ty (.int .i64)), (.ty (.int .i64)), (.sla 1 .yes), (.ty (.int .i64)), (.ty (.int .i64)), (.sla 2 .yes), (.ty (.int .i64)), (.ty (.int .i64)), (.sla 3 .yes), (.ty (.int .i64)), (.ty (.int .i64)), (.sla 4 .yes)]))], [], [], [⟨true, (.many (.pair (.int .i64) (.pair (.int .i64) (.int .i64))))⟩, ⟨true, (.many (.pair (.int .i64) (.pair (.int .i64) (.int .i64))))⟩, ⟨true, (.many (.pair (.int .i64) (.pair (.int .i64) (.int .i64))))⟩, ⟨true, (.many (.pair (.int .i64) (.pair (.int .i64) (.int .i64))))⟩, ⟨true, (.many (.pair (.int .i64) (.pair (.int .i64) (.int .i64))))⟩]⟩⟩
noncomputable def f216 (N : Nat) (x : s216.inp) : Option s216.res := fnS N K105 t216 ⟨h216, a216⟩ s216 x
noncomputable def c216 : Ctr := ⟨s216, f216⟩
theorem gc216 : GoodC TBSt 216 c216 := good0 (T := TBSt) (f := 216) (K := K105) (c := c216) (F := t216) (nt := ⟨h216, a216⟩) ⟨fun _ => rfl, rfl⟩ gk105 (by kernel_rfl) rfl (by kernel_rfl) (by intro N x; kernel_rfl)
noncomputable def K216 : CTab := fun f svs => bif f.beq 216 then some c216 else K105 f svs
theorem gk216 : GoodK TBSt K216 := by
  intro f svs c h
  unfold K216 at h
  cases hf : f.beq 216 with
  | false => rw [hf] at h; exact gk105 f svs c h
  | true =>
    obtain rfl := Nat.eq_of_beq_eq_true hf
    rw [hf, cond_true] at h
    obtain rfl := Option.some.inj h
    exact ⟨gc216, by kernel_rfl⟩
def h187 (t : Nat) : Option Hn :=
  bif t.beq 2 then some (.parts [some (.int .i64), some (.int .i64), none]) else bif t.beq 10 then some (.parts [some (.int .i64), some (.int .i64), none]) else none
def a187 (i : Nat) : Option Shape :=
  bif i.beq 2 then some ⟨[(9, (.ty .bool))], [], [], []⟩ else bif i.beq 5 then some ⟨[(3, (.ty .bool))], [(0, (.one (.segs [(.ty (.int .i64)), (.ty (.int .i64)), (.sla 1 .yes)])))], [], [⟨true, (.many (.pair (.int .i64) (.pair (.int .i64) (.int .i64))))⟩]⟩ else none
def s187 : Sg := ⟨[(.ty (.int .i64))], [], ⟨[(0, (.tup [(.segs [(.ty (.int .i64)), (.ty (.int .i64)), (.sla 0 .yes)]), (.ty .bool)]))], [], [], [⟨true, (.many (.pair (.int .i64) (.pair (.int .i64) (.int .i64))))⟩]⟩⟩
noncomputable def f187 (N : Nat) (x : s187.inp) : Option s187.res := fnS N K216 t187 ⟨h187, a187⟩ s187 x
noncomputable def c187 : Ctr := ⟨s187, f187⟩
theorem gc187 : GoodC TBSt 187 c187 := good0 (T := TBSt) (f := 187) (K := K216) (c := c187) (F := t187) (nt := ⟨h187, a187⟩) ⟨fun _ => rfl, rfl⟩ gk216 (by kernel_rfl) rfl (by kernel_rfl) (by intro N x; kernel_rfl)
noncomputable def K187 : CTab := fun f svs => bif f.beq 187 then some c187 else K216 f svs
theorem gk187 : GoodK TBSt K187 := by
  intro f svs c h
  unfold K187 at h
  cases hf : f.beq 187 with
  | false => rw [hf] at h; exact gk216 f svs c h
  | true =>
    obtain rfl := Nat.eq_of_beq_eq_true hf
    rw [hf, cond_true] at h
    obtain rfl := Option.some.inj h
    exact ⟨gc187, by kernel_rfl⟩
def h127 (t : Nat) : Option Hn :=
  none
def a127 (i : Nat) : Option Shape :=
  bif i.beq 2 then some ⟨[(10, (.ty .bool))], [], [], []⟩ else none
def s127 : Sg := ⟨[(.ty (.int .u64)), (.ty (.int .i64))], [], ⟨[(0, (.ty (.int .u64)))], [], [], []⟩⟩
noncomputable def f127 (N : Nat) (x : s127.inp) : Option s127.res := fnS N K187 t127 ⟨h127, a127⟩ s127 x
noncomputable def c127 : Ctr := ⟨s127, f127⟩
theorem gc127 : GoodC TBSt 127 c127 := good2 (T := TBSt) (f := 127) (K := K187) (c := c127) (F := t127) (nt := ⟨h127, a127⟩) ⟨fun _ => rfl, rfl⟩ gk187 (by kernel_rfl) rfl (by kernel_rfl) (by kernel_rfl) rfl (by kernel_rfl) (by intro N x; kernel_rfl)
noncomputable def K127 : CTab := fun f svs => bif f.beq 127 then some c127 else K187 f svs
theorem gk127 : GoodK TBSt K127 := by
  intro f svs c h
  unfold K127 at h
  cases hf : f.beq 127 with
  | false => rw [hf] at h; exact gk187 f svs c h
  | true =>
    obtain rfl := Nat.eq_of_beq_eq_true hf
    rw [hf, cond_true] at h
    obtain rfl := Option.some.inj h
    exact ⟨gc127, by kernel_rfl⟩
def h159 (t : Nat) : Option Hn :=
  bif t.beq 5 then some (.parts [some (.int .i64), some (.int .i64), none]) else bif t.beq 9 then some (.ty (.pair (.int .i64) (.pair (.int .i64) (.int .i64)))) else none
def a159 (i : Nat) : Option Shape :=
  bif i.beq 10 then some ⟨[(7, (.ty (.int .u64))), (20, (.ty (.int .i64)))], [], [], []⟩ else none
def s159 : Sg := ⟨[(.ty (.int .i64)), (.ty (.int .u32))], [], ⟨[(0, (.ty (.int .i64)))], [], [], []⟩⟩
noncomputable def f159 (N : Nat) (x : s159.inp) : Option s159.res := fnS N K127 t159 ⟨h159, a159⟩ s159 x
noncomputable def c159 : Ctr := ⟨s159, f159⟩
theorem gc159 : GoodC TBSt 159 c159 := good2 (T := TBSt) (f := 159) (K := K127) (c := c159) (F := t159) (nt := ⟨h159, a159⟩) ⟨fun _ => rfl, rfl⟩ gk127 (by kernel_rfl) rfl (by kernel_rfl) (by kernel_rfl) rfl (by kernel_rfl) (by intro N x; kernel_rfl)
noncomputable def K159 : CTab := fun f svs => bif f.beq 159 then some c159 else K127 f svs
theorem gk159 : GoodK TBSt K159 := by
  intro f svs c h
  unfold K159 at h
  cases hf : f.beq 159 with
  | false => rw [hf] at h; exact gk127 f svs c h
  | true =>
    obtain rfl := Nat.eq_of_beq_eq_true hf
    rw [hf, cond_true] at h
    obtain rfl := Option.some.inj h
    exact ⟨gc159, by kernel_rfl⟩
def h160 (t : Nat) : Option Hn :=
  bif t.beq 6 then some (.ty (.arr 8 (.int .i64))) else bif t.beq 41 then some (.ty (.arr 8 (.int .i64))) else none
def a160 (i : Nat) : Option Shape :=
  bif i.beq 5 then some ⟨[(14, (.ty .bool))], [], [], []⟩ else bif i.beq 8 then some ⟨[(23, (.ty .bool))], [], [], []⟩ else bif i.beq 11 then some ⟨[(32, (.ty .bool))], [], [], []⟩ else none
def s160 : Sg := ⟨[(.ty (.pair (.int .u32) (.pair (.int .i64) (.pair (.int .i64) (.pair (.int .i64) (.pair (.int .u32) (.int .u32)))))))], [], ⟨[(0, (.tup [(.ty (.int .i64)), (.ty (.int .i64))]))], [], [], []⟩⟩
noncomputable def f160 (N : Nat) (x : s160.inp) : Option s160.res := fnS N K159 t160 ⟨h160, a160⟩ s160 x
noncomputable def c160 : Ctr := ⟨s160, f160⟩
theorem gc160 : GoodC TBSt 160 c160 := good2 (T := TBSt) (f := 160) (K := K159) (c := c160) (F := t160) (nt := ⟨h160, a160⟩) ⟨fun _ => rfl, rfl⟩ gk159 (by kernel_rfl) rfl (by kernel_rfl) (by kernel_rfl) rfl (by kernel_rfl) (by intro N x; kernel_rfl)
noncomputable def K160 : CTab := fun f svs => bif f.beq 160 then some c160 else K159 f svs
theorem gk160 : GoodK TBSt K160 := by
  intro f svs c h
  unfold K160 at h
  cases hf : f.beq 160 with
  | false => rw [hf] at h; exact gk159 f svs c h
  | true =>
    obtain rfl := Nat.eq_of_beq_eq_true hf
    rw [hf, cond_true] at h
    obtain rfl := Option.some.inj h
    exact ⟨gc160, by kernel_rfl⟩
def h161 (t : Nat) : Option Hn :=
  none
def a161 (i : Nat) : Option Shape :=
  bif i.beq 6 then some ⟨[(11, (.ty .bool))], [], [], []⟩ else bif i.beq 9 then some ⟨[(22, (.ty .bool))], [], [], []⟩ else bif i.beq 12 then some ⟨[(33, (.ty .bool))], [], [], []⟩ else none
def s161 : Sg := ⟨[(.ty (.pair (.int .u32) (.pair (.int .i64) (.pair (.int .i64) (.pair (.int .i64) (.pair (.int .u32) (.int .u32)))))))], [], ⟨[(0, (.tup [(.ty (.int .i64)), (.ty (.int .i64))]))], [], [], []⟩⟩
noncomputable def f161 (N : Nat) (x : s161.inp) : Option s161.res := fnS N K160 t161 ⟨h161, a161⟩ s161 x
noncomputable def c161 : Ctr := ⟨s161, f161⟩
theorem gc161 : GoodC TBSt 161 c161 := good2 (T := TBSt) (f := 161) (K := K160) (c := c161) (F := t161) (nt := ⟨h161, a161⟩) ⟨fun _ => rfl, rfl⟩ gk160 (by kernel_rfl) rfl (by kernel_rfl) (by kernel_rfl) rfl (by kernel_rfl) (by intro N x; kernel_rfl)
noncomputable def K161 : CTab := fun f svs => bif f.beq 161 then some c161 else K160 f svs
theorem gk161 : GoodK TBSt K161 := by
  intro f svs c h
  unfold K161 at h
  cases hf : f.beq 161 with
  | false => rw [hf] at h; exact gk160 f svs c h
  | true =>
    obtain rfl := Nat.eq_of_beq_eq_true hf
    rw [hf, cond_true] at h
    obtain rfl := Option.some.inj h
    exact ⟨gc161, by kernel_rfl⟩
def h162 (t : Nat) : Option Hn :=
  bif t.beq 0 then some (.ty (.arr 8 (.int .i64))) else bif t.beq 1 then some (.ty (.arr 8 (.int .i64))) else bif t.beq 2 then some (.ty (.arr 8 (.int .i64))) else bif t.beq 3 then some (.ty (.arr 8 (.int .i64))) else none
def a162 (i : Nat) : Option Shape :=
  none
def s162 : Sg := ⟨[], [], ⟨[(0, (.tup [(.ty (.arr 8 (.int .i64))), (.ty (.arr 8 (.int .i64)))]))], [], [], []⟩⟩
noncomputable def f162 (N : Nat) (x : s162.inp) : Option s162.res := fnS N K161 t162 ⟨h162, a162⟩ s162 x
noncomputable def c162 : Ctr := ⟨s162, f162⟩
theorem gc162 : GoodC TBSt 162 c162 := good2 (T := TBSt) (f := 162) (K := K161) (c := c162) (F := t162) (nt := ⟨h162, a162⟩) ⟨fun _ => rfl, rfl⟩ gk161 (by kernel_rfl) rfl (by kernel_rfl) (by kernel_rfl) rfl (by kernel_rfl) (by intro N x; kernel_rfl)
noncomputable def K162 : CTab := fun f svs => bif f.beq 162 then some c162 else K161 f svs
theorem gk162 : GoodK TBSt K162 := by
  intro f svs c h
  unfold K162 at h
  cases hf : f.beq 162 with
  | false => rw [hf] at h; exact gk161 f svs c h
  | true =>
    obtain rfl := Nat.eq_of_beq_eq_true hf
    rw [hf, cond_true] at h
    obtain rfl := Option.some.inj h
    exact ⟨gc162, by kernel_rfl⟩
def h163 (t : Nat) : Option Hn :=
  none
def a163 (i : Nat) : Option Shape :=
  none
def s163 : Sg := ⟨[(.ty (.pair (.int .u32) (.pair (.int .i64) (.pair (.int .i64) (.pair (.int .i64) (.pair (.int .u32) (.int .u32))))))), (.ty (.arr 8 (.int .i64))), (.ty (.arr 8 (.int .i64)))], [], ⟨[(0, (.ty (.int .i64)))], [], [], []⟩⟩
noncomputable def f163 (N : Nat) (x : s163.inp) : Option s163.res := fnS N K162 t163 ⟨h163, a163⟩ s163 x
noncomputable def c163 : Ctr := ⟨s163, f163⟩
theorem gc163 : GoodC TBSt 163 c163 := good2 (T := TBSt) (f := 163) (K := K162) (c := c163) (F := t163) (nt := ⟨h163, a163⟩) ⟨fun _ => rfl, rfl⟩ gk162 (by kernel_rfl) rfl (by kernel_rfl) (by kernel_rfl) rfl (by kernel_rfl) (by intro N x; kernel_rfl)
noncomputable def K163 : CTab := fun f svs => bif f.beq 163 then some c163 else K162 f svs
theorem gk163 : GoodK TBSt K163 := by
  intro f svs c h
  unfold K163 at h
  cases hf : f.beq 163 with
  | false => rw [hf] at h; exact gk162 f svs c h
  | true =>
    obtain rfl := Nat.eq_of_beq_eq_true hf
    rw [hf, cond_true] at h
    obtain rfl := Option.some.inj h
    exact ⟨gc163, by kernel_rfl⟩
def h164 (t : Nat) : Option Hn :=
  bif t.beq 0 then some (.ty (.arr 8 (.int .i64))) else bif t.beq 1 then some (.ty (.arr 8 (.int .i64))) else bif t.beq 2 then some (.ty (.arr 8 (.int .i64))) else bif t.beq 3 then some (.ty (.arr 8 (.int .i64))) else none
def a164 (i : Nat) : Option Shape :=
  none
def s164 : Sg := ⟨[], [], ⟨[(0, (.tup [(.ty (.arr 8 (.int .i64))), (.ty (.arr 8 (.int .i64)))]))], [], [], []⟩⟩
noncomputable def f164 (N : Nat) (x : s164.inp) : Option s164.res := fnS N K163 t164 ⟨h164, a164⟩ s164 x
noncomputable def c164 : Ctr := ⟨s164, f164⟩
theorem gc164 : GoodC TBSt 164 c164 := good2 (T := TBSt) (f := 164) (K := K163) (c := c164) (F := t164) (nt := ⟨h164, a164⟩) ⟨fun _ => rfl, rfl⟩ gk163 (by kernel_rfl) rfl (by kernel_rfl) (by kernel_rfl) rfl (by kernel_rfl) (by intro N x; kernel_rfl)
noncomputable def K164 : CTab := fun f svs => bif f.beq 164 then some c164 else K163 f svs
theorem gk164 : GoodK TBSt K164 := by
  intro f svs c h
  unfold K164 at h
  cases hf : f.beq 164 with
  | false => rw [hf] at h; exact gk163 f svs c h
  | true =>
    obtain rfl := Nat.eq_of_beq_eq_true hf
    rw [hf, cond_true] at h
    obtain rfl := Option.some.inj h
    exact ⟨gc164, by kernel_rfl⟩
def h165 (t : Nat) : Option Hn :=
  bif t.beq 2 then some (.ty (.pair (.int .i64) (.pair (.int .i64) (.pair (.int .i64) (.pair (.int .i64) (.pair (.int .i64) (.pair .bool (.pair .bool (.pair (.int .i64) (.int .i64)))))))))) else bif t.beq 6 then some (.ty (.pair (.int .i64) (.pair (.int .i64) (.pair (.int .i64) (.pair (.int .i64) (.pair (.int .i64) (.pair .bool (.pair .bool (.pair (.int .i64) (.int .i64)))))))))) else bif t.beq 13 then some (.ty (.pair (.int .i64) (.pair (.int .i64) (.pair (.int .i64) (.pair (.int .i64) (.pair (.int .i64) (.pair .bool (.pair .bool (.pair (.int .i64) (.int .i64)))))))))) else none
def a165 (i : Nat) : Option Shape :=
  none
def s165 : Sg := ⟨[(.ty (.int .u32))], [], ⟨[(0, (.ty (.pair (.int .i64) (.pair (.int .i64) (.pair (.int .i64) (.pair (.int .i64) (.pair (.int .i64) (.pair .bool (.pair .bool (.pair (.int .i64) (.int .i64)))))))))))], [], [], []⟩⟩
noncomputable def f165 (N : Nat) (x : s165.inp) : Option s165.res := fnS N K164 t165 ⟨h165, a165⟩ s165 x
noncomputable def c165 : Ctr := ⟨s165, f165⟩
theorem gc165 : GoodC TBSt 165 c165 := good2 (T := TBSt) (f := 165) (K := K164) (c := c165) (F := t165) (nt := ⟨h165, a165⟩) ⟨fun _ => rfl, rfl⟩ gk164 (by kernel_rfl) rfl (by kernel_rfl) (by kernel_rfl) rfl (by kernel_rfl) (by intro N x; kernel_rfl)
noncomputable def K165 : CTab := fun f svs => bif f.beq 165 then some c165 else K164 f svs
theorem gk165 : GoodK TBSt K165 := by
  intro f svs c h
  unfold K165 at h
  cases hf : f.beq 165 with
  | false => rw [hf] at h; exact gk164 f svs c h
  | true =>
    obtain rfl := Nat.eq_of_beq_eq_true hf
    rw [hf, cond_true] at h
    obtain rfl := Option.some.inj h
    exact ⟨gc165, by kernel_rfl⟩
def h166 (t : Nat) : Option Hn :=
  none
def a166 (i : Nat) : Option Shape :=
  bif i.beq 4 then some ⟨[(3, (.ty (.int .i64)))], [], [], []⟩ else bif i.beq 31 then some ⟨[(32, (.ty .bool))], [], [], []⟩ else none
def s166 : Sg := ⟨[(.ty (.pair (.int .u32) (.pair (.int .i64) (.pair (.int .i64) (.pair (.int .i64) (.pair (.int .u32) (.int .u32)))))))], [], ⟨[(0, (.ty (.int .i64)))], [], [], []⟩⟩
noncomputable def f166 (N : Nat) (x : s166.inp) : Option s166.res := fnS N K165 t166 ⟨h166, a166⟩ s166 x
noncomputable def c166 : Ctr := ⟨s166, f166⟩
theorem gc166 : GoodC TBSt 166 c166 := good2 (T := TBSt) (f := 166) (K := K165) (c := c166) (F := t166) (nt := ⟨h166, a166⟩) ⟨fun _ => rfl, rfl⟩ gk165 (by kernel_rfl) rfl (by kernel_rfl) (by kernel_rfl) rfl (by kernel_rfl) (by intro N x; kernel_rfl)
noncomputable def K166 : CTab := fun f svs => bif f.beq 166 then some c166 else K165 f svs
theorem gk166 : GoodK TBSt K166 := by
  intro f svs c h
  unfold K166 at h
  cases hf : f.beq 166 with
  | false => rw [hf] at h; exact gk165 f svs c h
  | true =>
    obtain rfl := Nat.eq_of_beq_eq_true hf
    rw [hf, cond_true] at h
    obtain rfl := Option.some.inj h
    exact ⟨gc166, by kernel_rfl⟩
def h104 (t : Nat) : Option Hn :=
  bif t.beq 2 then some (.ty (.pair (.int .i64) (.pair (.int .i64) (.pair (.int .i64) (.pair (.int .i64) (.pair (.int .i64) (.pair .bool (.pair .bool (.pair (.int .i64) (.int .i64)))))))))) else bif t.beq 3 then some (.ty (.pair (.int .i64) (.pair (.int .i64) (.pair (.int .i64) (.pair (.int .i64) (.pair (.int .i64) (.pair .bool (.pair .bool (.pair (.int .i64) (.int .i64)))))))))) else bif t.beq 4 then some (.ty (.arr 8 (.int .i64))) else bif t.beq 5 then some (.ty (.arr 8 (.int .i64))) else bif t.beq 6 then some (.ty (.arr 8 (.int .i64))) else bif t.beq 7 then some (.ty (.arr 8 (.int .i64))) else bif t.beq 8 then some (.ty (.arr 8 (.int .i64))) else bif t.beq 15 then some (.ty (.pair (.int .i64) (.pair (.int .i64) (.pair (.int .i64) (.pair (.int .i64) (.pair (.int .i64) (.pair .bool (.pair .bool (.pair (.int .i64) (.int .i64)))))))))) else bif t.beq 52 then some (.ty (.arr 8 (.int .i64))) else none
def a104 (i : Nat) : Option Shape :=
  bif i.beq 4 then some ⟨[], [(2, (.one (.ty (.pair (.int .i64) (.pair (.int .i64) (.pair (.int .i64) (.pair (.int .i64) (.pair (.int .i64) (.pair .bool (.pair .bool (.pair (.int .i64) (.int .i64))))))))))))], [], []⟩ else bif i.beq 44 then some ⟨[], [(2, (.one (.ty (.pair (.int .i64) (.pair (.int .i64) (.pair (.int .i64) (.pair (.int .i64) (.pair (.int .i64) (.pair .bool (.pair .bool (.pair (.int .i64) (.int .i64))))))))))))], [], []⟩ else none
def s104 : Sg := ⟨[(.ty (.pair (.int .u32) (.pair (.int .i64) (.pair (.int .i64) (.pair (.int .i64) (.pair (.int .u32) (.int .u32)))))))], [], ⟨[(0, (.ty (.pair (.int .i64) (.pair (.int .i64) (.pair (.int .i64) (.pair (.int .i64) (.pair (.int .i64) (.pair .bool (.pair .bool (.pair (.int .i64) (.int .i64)))))))))))], [], [], []⟩⟩
noncomputable def f104 (N : Nat) (x : s104.inp) : Option s104.res := fnS N K166 t104 ⟨h104, a104⟩ s104 x
noncomputable def c104 : Ctr := ⟨s104, f104⟩
theorem gc104 : GoodC TBSt 104 c104 := good2 (T := TBSt) (f := 104) (K := K166) (c := c104) (F := t104) (nt := ⟨h104, a104⟩) ⟨fun _ => rfl, rfl⟩ gk166 (by kernel_rfl) rfl (by kernel_rfl) (by kernel_rfl) rfl (by kernel_rfl) (by intro N x; kernel_rfl)
noncomputable def K104 : CTab := fun f svs => bif f.beq 104 then some c104 else K166 f svs
theorem gk104 : GoodK TBSt K104 := by
  intro f svs c h
  unfold K104 at h
  cases hf : f.beq 104 with
  | false => rw [hf] at h; exact gk166 f svs c h
  | true =>
    obtain rfl := Nat.eq_of_beq_eq_true hf
    rw [hf, cond_true] at h
    obtain rfl := Option.some.inj h
    exact ⟨gc104, by kernel_rfl⟩
def h72 (t : Nat) : Option Hn :=
  none
def a72 (i : Nat) : Option Shape :=
  bif i.beq 3 then some ⟨[(3, (.ty .bool))], [], [], []⟩ else none
def s72 : Sg := ⟨[(.ty (.int .i64))], [], ⟨[(0, (.ty (.int .i64)))], [], [], []⟩⟩
noncomputable def f72 (N : Nat) (x : s72.inp) : Option s72.res := fnS N K104 t72 ⟨h72, a72⟩ s72 x
noncomputable def c72 : Ctr := ⟨s72, f72⟩
theorem gc72 : GoodC TBSt 72 c72 := good2 (T := TBSt) (f := 72) (K := K104) (c := c72) (F := t72) (nt := ⟨h72, a72⟩) ⟨fun _ => rfl, rfl⟩ gk104 (by kernel_rfl) rfl (by kernel_rfl) (by kernel_rfl) rfl (by kernel_rfl) (by intro N x; kernel_rfl)
noncomputable def K72 : CTab := fun f svs => bif f.beq 72 then some c72 else K104 f svs
theorem gk72 : GoodK TBSt K72 := by
  intro f svs c h
  unfold K72 at h
  cases hf : f.beq 72 with
  | false => rw [hf] at h; exact gk104 f svs c h
  | true =>
    obtain rfl := Nat.eq_of_beq_eq_true hf
    rw [hf, cond_true] at h
    obtain rfl := Option.some.inj h
    exact ⟨gc72, by kernel_rfl⟩
def h129 (t : Nat) : Option Hn :=
  none
def a129 (i : Nat) : Option Shape :=
  bif i.beq 2 then some ⟨[(8, (.ty .bool))], [], [], []⟩ else none
def s129 : Sg := ⟨[(.ty (.int .i64))], [], ⟨[(0, (.ty (.int .i64)))], [], [], []⟩⟩
noncomputable def f129 (N : Nat) (x : s129.inp) : Option s129.res := fnS N K72 t129 ⟨h129, a129⟩ s129 x
noncomputable def c129 : Ctr := ⟨s129, f129⟩
theorem gc129 : GoodC TBSt 129 c129 := good2 (T := TBSt) (f := 129) (K := K72) (c := c129) (F := t129) (nt := ⟨h129, a129⟩) ⟨fun _ => rfl, rfl⟩ gk72 (by kernel_rfl) rfl (by kernel_rfl) (by kernel_rfl) rfl (by kernel_rfl) (by intro N x; kernel_rfl)
noncomputable def K129 : CTab := fun f svs => bif f.beq 129 then some c129 else K72 f svs
theorem gk129 : GoodK TBSt K129 := by
  intro f svs c h
  unfold K129 at h
  cases hf : f.beq 129 with
  | false => rw [hf] at h; exact gk72 f svs c h
  | true =>
    obtain rfl := Nat.eq_of_beq_eq_true hf
    rw [hf, cond_true] at h
    obtain rfl := Option.some.inj h
    exact ⟨gc129, by kernel_rfl⟩
def h76 (t : Nat) : Option Hn :=
  none
def a76 (i : Nat) : Option Shape :=
  bif i.beq 4 then some ⟨[(6, (.ty .bool))], [], [], []⟩ else none
def s76 : Sg := ⟨[(.ty (.pair (.int .i64) (.pair (.int .i64) (.pair (.int .i64) (.pair (.int .i64) (.pair (.int .i64) (.pair .bool (.pair .bool (.pair (.int .i64) (.int .i64))))))))))], [], ⟨[(0, (.ty (.int .i64)))], [], [], []⟩⟩
noncomputable def f76 (N : Nat) (x : s76.inp) : Option s76.res := fnS N K129 t76 ⟨h76, a76⟩ s76 x
noncomputable def c76 : Ctr := ⟨s76, f76⟩
theorem gc76 : GoodC TBSt 76 c76 := good2 (T := TBSt) (f := 76) (K := K129) (c := c76) (F := t76) (nt := ⟨h76, a76⟩) ⟨fun _ => rfl, rfl⟩ gk129 (by kernel_rfl) rfl (by kernel_rfl) (by kernel_rfl) rfl (by kernel_rfl) (by intro N x; kernel_rfl)
noncomputable def K76 : CTab := fun f svs => bif f.beq 76 then some c76 else K129 f svs
theorem gk76 : GoodK TBSt K76 := by
  intro f svs c h
  unfold K76 at h
  cases hf : f.beq 76 with
  | false => rw [hf] at h; exact gk129 f svs c h
  | true =>
    obtain rfl := Nat.eq_of_beq_eq_true hf
    rw [hf, cond_true] at h
    obtain rfl := Option.some.inj h
    exact ⟨gc76, by kernel_rfl⟩
def h146 (t : Nat) : Option Hn :=
  bif t.beq 22 then some (.ty (.int .i64)) else bif t.beq 30 then some (.ty (.int .i64)) else bif t.beq 39 then some (.ty (.int .i64)) else bif t.beq 50 then some (.ty (.int .i64)) else none
def a146 (i : Nat) : Option Shape :=
  bif i.beq 4 then some ⟨[(3, (.sla 1 .yes))], [], [], [⟨true, (.many (.int .i64))⟩]⟩ else bif i.beq 5 then some ⟨[(10, (.ty .bool))], [], [], []⟩ else bif i.beq 15 then some ⟨[(23, (.ty .bool))], [], [], []⟩ else bif i.beq 29 then some ⟨[(4, (.sla 2 .yes)), (42, (.ty (.int .i64)))], [], [], [⟨true, (.many (.int .i64))⟩]⟩ else bif i.beq 34 then some ⟨[(4, (.sla 3 .yes))], [], [2], [⟨true, (.many (.int .i64))⟩]⟩ else none
def s146 : Sg := ⟨[(.ty (.pair (.int .i64) (.pair (.int .i64) (.pair (.int .i64) (.pair (.int .i64) (.pair (.int .i64) (.pair .bool (.pair .bool (.pair (.int .i64) (.int .i64))))))))))], [], ⟨[(0, (.sla 0 .yes))], [], [], [⟨true, (.many (.int .i64))⟩]⟩⟩
noncomputable def f146 (N : Nat) (x : s146.inp) : Option s146.res := fnS N K76 t146 ⟨h146, a146⟩ s146 x
noncomputable def c146 : Ctr := ⟨s146, f146⟩
theorem gc146 : GoodC TBSt 146 c146 := good3 (T := TBSt) (f := 146) (K := K76) (c := c146) (F := t146) (nt := ⟨h146, a146⟩) ⟨fun _ => rfl, rfl⟩ gk76 (by kernel_rfl) rfl (by kernel_rfl) (by kernel_rfl) (by intro N x; kernel_rfl)
noncomputable def K146 : CTab := fun f svs => bif f.beq 146 then some c146 else K76 f svs
theorem gk146 : GoodK TBSt K146 := by
  intro f svs c h
  unfold K146 at h
  cases hf : f.beq 146 with
  | false => rw [hf] at h; exact gk76 f svs c h
  | true =>
    obtain rfl := Nat.eq_of_beq_eq_true hf
    rw [hf, cond_true] at h
    obtain rfl := Option.some.inj h
    exact ⟨gc146, by kernel_rfl⟩
def h92 (t : Nat) : Option Hn :=
  bif t.beq 2 then some (.ty (.pair (.int .i64) (.pair (.int .i64) (.pair (.int .i64) (.pair (.int .i64) (.pair (.int .i64) (.pair .bool (.pair .bool (.pair (.int .i64) (.int .i64)))))))))) else bif t.beq 3 then some (.ty (.pair (.int .i64) (.pair (.int .i64) (.pair (.int .i64) (.pair (.int .i64) (.pair (.int .i64) (.pair .bool (.pair .bool (.pair (.int .i64) (.int .i64)))))))))) else bif t.beq 4 then some (.ty (.arr 4 .bool)) else bif t.beq 9 then some (.ty (.pair (.int .i64) (.pair (.int .i64) (.pair (.int .i64) (.pair (.int .i64) (.pair (.int .i64) (.pair .bool (.pair .bool (.pair (.int .i64) (.int .i64)))))))))) else bif t.beq 14 then some (.ty (.arr 4 .bool)) else none
def a92 (i : Nat) : Option Shape :=
  bif i.beq 2 then some ⟨[], [(0, (.one (.segs [(.ty (.pair (.int .i64) (.pair (.int .i64) (.pair (.int .i64) (.pair (.int .i64) (.pair (.int .i64) (.pair .bool (.pair .bool (.pair (.int .i64) (.int .i64))))))))))])))], [], []⟩ else bif i.beq 9 then some ⟨[(18, (.ty (.int .i64)))], [(3, (.one (.ty (.arr 4 .bool))))], [], []⟩ else bif i.beq 16 then some ⟨[], [(0, (.one (.segs [(.ty (.pair (.int .i64) (.pair (.int .i64) (.pair (.int .i64) (.pair (.int .i64) (.pair (.int .i64) (.pair .bool (.pair .bool (.pair (.int .i64) (.int .i64))))))))))])))], [], []⟩ else bif i.beq 19 then some ⟨[], [(0, (.one (.segs [(.ty (.pair (.int .i64) (.pair (.int .i64) (.pair (.int .i64) (.pair (.int .i64) (.pair (.int .i64) (.pair .bool (.pair .bool (.pair (.int .i64) (.int .i64))))))))))])))], [], []⟩ else none
def s92 : Sg := ⟨[(.ty (.pair (.int .i64) (.pair (.int .i64) (.pair (.int .i64) (.pair (.int .i64) (.pair (.int .i64) (.pair .bool (.pair .bool (.pair (.int .i64) (.int .i64))))))))))], [], ⟨[(0, (.ty (.pair (.int .i64) (.pair (.int .i64) (.pair (.int .i64) (.pair (.int .i64) (.pair (.int .i64) (.pair .bool (.pair .bool (.pair (.int .i64) (.int .i64)))))))))))], [], [], []⟩⟩
noncomputable def f92 (N : Nat) (x : s92.inp) : Option s92.res := fnS N K146 t92 ⟨h92, a92⟩ s92 x
noncomputable def c92 : Ctr := ⟨s92, f92⟩
theorem gc92 : GoodC TBSt 92 c92 := good2 (T := TBSt) (f := 92) (K := K146) (c := c92) (F := t92) (nt := ⟨h92, a92⟩) ⟨fun _ => rfl, rfl⟩ gk146 (by kernel_rfl) rfl (by kernel_rfl) (by kernel_rfl) rfl (by kernel_rfl) (by intro N x; kernel_rfl)
noncomputable def K92 : CTab := fun f svs => bif f.beq 92 then some c92 else K146 f svs
theorem gk92 : GoodK TBSt K92 := by
  intro f svs c h
  unfold K92 at h
  cases hf : f.beq 92 with
  | false => rw [hf] at h; exact gk146 f svs c h
  | true =>
    obtain rfl := Nat.eq_of_beq_eq_true hf
    rw [hf, cond_true] at h
    obtain rfl := Option.some.inj h
    exact ⟨gc92, by kernel_rfl⟩
def h56 (t : Nat) : Option Hn :=
  bif t.beq 2 then some (.ty (.pair (.int .i64) (.pair (.int .i64) (.pair (.int .i64) (.pair (.int .i64) (.pair (.int .i64) (.pair .bool (.pair .bool (.pair (.int .i64) (.int .i64)))))))))) else bif t.beq 4 then some (.ty (.pair (.int .i64) (.pair (.int .i64) (.pair (.int .i64) (.pair (.int .i64) (.pair (.int .i64) (.pair .bool (.pair .bool (.pair (.int .i64) (.int .i64)))))))))) else bif t.beq 11 then some (.ty (.pair (.int .i64) (.pair (.int .i64) (.pair (.int .i64) (.pair (.int .i64) (.pair (.int .i64) (.pair .bool (.pair .bool (.pair (.int .i64) (.int .i64)))))))))) else none
def a56 (i : Nat) : Option Shape :=
  none
def s56 : Sg := ⟨[(.ty (.int .u32))], [], ⟨[(0, (.tup [(.ty (.pair (.int .i64) (.pair (.int .i64) (.pair (.int .i64) (.pair (.int .i64) (.pair (.int .i64) (.pair .bool (.pair .bool (.pair (.int .i64) (.int .i64)))))))))), (.ty (.int .i64))]))], [], [], []⟩⟩
noncomputable def f56 (N : Nat) (x : s56.inp) : Option s56.res := fnS N K92 t56 ⟨h56, a56⟩ s56 x
noncomputable def c56 : Ctr := ⟨s56, f56⟩
theorem gc56 : GoodC TBSt 56 c56 := good2 (T := TBSt) (f := 56) (K := K92) (c := c56) (F := t56) (nt := ⟨h56, a56⟩) ⟨fun _ => rfl, rfl⟩ gk92 (by kernel_rfl) rfl (by kernel_rfl) (by kernel_rfl) rfl (by kernel_rfl) (by intro N x; kernel_rfl)
noncomputable def K56 : CTab := fun f svs => bif f.beq 56 then some c56 else K92 f svs
theorem gk56 : GoodK TBSt K56 := by
  intro f svs c h
  unfold K56 at h
  cases hf : f.beq 56 with
  | false => rw [hf] at h; exact gk92 f svs c h
  | true =>
    obtain rfl := Nat.eq_of_beq_eq_true hf
    rw [hf, cond_true] at h
    obtain rfl := Option.some.inj h
    exact ⟨gc56, by kernel_rfl⟩
def h27 (t : Nat) : Option Hn :=
  bif t.beq 4 then some (.ty (.pair (.int .i64) (.pair (.int .i64) (.pair (.int .i64) (.pair (.int .i64) (.pair (.int .i64) (.pair .bool (.pair .bool (.pair (.int .i64) (.int .i64)))))))))) else bif t.beq 6 then some (.ty (.pair (.int .i64) (.pair (.int .i64) (.pair (.int .i64) (.pair (.int .i64) (.pair (.int .i64) (.pair .bool (.pair .bool (.pair (.int .i64) (.int .i64)))))))))) else bif t.beq 24 then some (.ty (.pair (.int .i64) (.pair (.int .i64) (.pair (.int .i64) (.pair (.int .i64) (.pair (.int .i64) (.pair .bool (.pair .bool (.pair (.int .i64) (.int .i64)))))))))) else bif t.beq 38 then some (.ty (.pair (.int .i64) (.pair (.int .i64) (.pair (.int .i64) (.pair (.int .i64) (.pair (.int .i64) (.pair .bool (.pair .bool (.pair (.int .i64) (.int .i64)))))))))) else none
def a27 (i : Nat) : Option Shape :=
  bif i.beq 2 then some ⟨[(23, (.ty .bool))], [], [], []⟩ else none
def s27 : Sg := ⟨[(.sla 0 .any), (.ty (.int .u64))], [⟨false, (.many (.int .u8))⟩], ⟨[(0, (.tup [(.ty (.pair (.int .i64) (.pair (.int .i64) (.pair (.int .i64) (.pair (.int .i64) (.pair (.int .i64) (.pair .bool (.pair .bool (.pair (.int .i64) (.int .i64)))))))))), (.ty (.int .i64))]))], [], [], []⟩⟩
noncomputable def f27 (N : Nat) (x : s27.inp) : Option s27.res := fnS N K56 t27 ⟨h27, a27⟩ s27 x
noncomputable def c27 : Ctr := ⟨s27, f27⟩
theorem gc27 : GoodC TBSt 27 c27 := good1 (T := TBSt) (f := 27) (K := K56) (c := c27) (F := t27) (nt := ⟨h27, a27⟩) ⟨fun _ => rfl, rfl⟩ gk56 (by kernel_rfl) rfl (by kernel_rfl) (by kernel_rfl) (by intro N x; kernel_rfl)
noncomputable def K27 : CTab := fun f svs => bif f.beq 27 then some c27 else K56 f svs
theorem gk27 : GoodK TBSt K27 := by
  intro f svs c h
  unfold K27 at h
  cases hf : f.beq 27 with
  | false => rw [hf] at h; exact gk56 f svs c h
  | true =>
    obtain rfl := Nat.eq_of_beq_eq_true hf
    rw [hf, cond_true] at h
    obtain rfl := Option.some.inj h
    exact ⟨gc27, by kernel_rfl⟩
def h71 (t : Nat) : Option Hn :=
  none
def a71 (i : Nat) : Option Shape :=
  bif i.beq 4 then some ⟨[(4, (.ty .bool))], [], [], []⟩ else bif i.beq 11 then some ⟨[(8, (.ty .bool))], [], [], []⟩ else bif i.beq 18 then some ⟨[(12, (.ty .bool))], [], [], []⟩ else bif i.beq 29 then some ⟨[(18, (.ty .bool))], [], [], []⟩ else none
def s71 : Sg := ⟨[(.ty (.int .i64))], [], ⟨[(0, (.ty (.int .i64)))], [], [], []⟩⟩
noncomputable def f71 (N : Nat) (x : s71.inp) : Option s71.res := fnS N K27 t71 ⟨h71, a71⟩ s71 x
noncomputable def c71 : Ctr := ⟨s71, f71⟩
theorem gc71 : GoodC TBSt 71 c71 := good2 (T := TBSt) (f := 71) (K := K27) (c := c71) (F := t71) (nt := ⟨h71, a71⟩) ⟨fun _ => rfl, rfl⟩ gk27 (by kernel_rfl) rfl (by kernel_rfl) (by kernel_rfl) rfl (by kernel_rfl) (by intro N x; kernel_rfl)
noncomputable def K71 : CTab := fun f svs => bif f.beq 71 then some c71 else K27 f svs
theorem gk71 : GoodK TBSt K71 := by
  intro f svs c h
  unfold K71 at h
  cases hf : f.beq 71 with
  | false => rw [hf] at h; exact gk27 f svs c h
  | true =>
    obtain rfl := Nat.eq_of_beq_eq_true hf
    rw [hf, cond_true] at h
    obtain rfl := Option.some.inj h
    exact ⟨gc71, by kernel_rfl⟩
def h123 (t : Nat) : Option Hn :=
  none
def a123 (i : Nat) : Option Shape :=
  none
def s123 : Sg := ⟨[(.ty (.int .i64))], [], ⟨[(0, (.ty .bool))], [], [], []⟩⟩
noncomputable def f123 (N : Nat) (x : s123.inp) : Option s123.res := fnS N K71 t123 ⟨h123, a123⟩ s123 x
noncomputable def c123 : Ctr := ⟨s123, f123⟩
theorem gc123 : GoodC TBSt 123 c123 := good2 (T := TBSt) (f := 123) (K := K71) (c := c123) (F := t123) (nt := ⟨h123, a123⟩) ⟨fun _ => rfl, rfl⟩ gk71 (by kernel_rfl) rfl (by kernel_rfl) (by kernel_rfl) rfl (by kernel_rfl) (by intro N x; kernel_rfl)
noncomputable def K123 : CTab := fun f svs => bif f.beq 123 then some c123 else K71 f svs
theorem gk123 : GoodK TBSt K123 := by
  intro f svs c h
  unfold K123 at h
  cases hf : f.beq 123 with
  | false => rw [hf] at h; exact gk71 f svs c h
  | true =>
    obtain rfl := Nat.eq_of_beq_eq_true hf
    rw [hf, cond_true] at h
    obtain rfl := Option.some.inj h
    exact ⟨gc123, by kernel_rfl⟩
def h124 (t : Nat) : Option Hn :=
  none
def a124 (i : Nat) : Option Shape :=
  bif i.beq 4 then some ⟨[(8, (.ty .bool))], [], [], []⟩ else bif i.beq 9 then some ⟨[(16, (.ty .bool))], [], [], []⟩ else none
def s124 : Sg := ⟨[(.ty (.pair (.int .i64) (.pair (.int .i64) (.pair (.int .i64) (.pair (.int .i64) (.pair (.int .i64) (.pair .bool (.pair .bool (.pair (.int .i64) (.int .i64)))))))))), (.ty (.int .u64))], [], ⟨[(0, (.ty (.int .u64)))], [], [], []⟩⟩
noncomputable def f124 (N : Nat) (x : s124.inp) : Option s124.res := fnS N K123 t124 ⟨h124, a124⟩ s124 x
noncomputable def c124 : Ctr := ⟨s124, f124⟩
theorem gc124 : GoodC TBSt 124 c124 := good2 (T := TBSt) (f := 124) (K := K123) (c := c124) (F := t124) (nt := ⟨h124, a124⟩) ⟨fun _ => rfl, rfl⟩ gk123 (by kernel_rfl) rfl (by kernel_rfl) (by kernel_rfl) rfl (by kernel_rfl) (by intro N x; kernel_rfl)
noncomputable def K124 : CTab := fun f svs => bif f.beq 124 then some c124 else K123 f svs
theorem gk124 : GoodK TBSt K124 := by
  intro f svs c h
  unfold K124 at h
  cases hf : f.beq 124 with
  | false => rw [hf] at h; exact gk123 f svs c h
  | true =>
    obtain rfl := Nat.eq_of_beq_eq_true hf
    rw [hf, cond_true] at h
    obtain rfl := Option.some.inj h
    exact ⟨gc124, by kernel_rfl⟩
def h125 (t : Nat) : Option Hn :=
  none
def a125 (i : Nat) : Option Shape :=
  bif i.beq 10 then some ⟨[(19, (.ty .bool))], [], [], []⟩ else none
def s125 : Sg := ⟨[(.ty (.int .i64)), (.ty (.int .u64)), (.ty (.int .i64))], [], ⟨[(0, (.ty (.int .i64)))], [], [], []⟩⟩
noncomputable def f125 (N : Nat) (x : s125.inp) : Option s125.res := fnS N K124 t125 ⟨h125, a125⟩ s125 x
noncomputable def c125 : Ctr := ⟨s125, f125⟩
theorem gc125 : GoodC TBSt 125 c125 := good2 (T := TBSt) (f := 125) (K := K124) (c := c125) (F := t125) (nt := ⟨h125, a125⟩) ⟨fun _ => rfl, rfl⟩ gk124 (by kernel_rfl) rfl (by kernel_rfl) (by kernel_rfl) rfl (by kernel_rfl) (by intro N x; kernel_rfl)
noncomputable def K125 : CTab := fun f svs => bif f.beq 125 then some c125 else K124 f svs
theorem gk125 : GoodK TBSt K125 := by
  intro f svs c h
  unfold K125 at h
  cases hf : f.beq 125 with
  | false => rw [hf] at h; exact gk124 f svs c h
  | true =>
    obtain rfl := Nat.eq_of_beq_eq_true hf
    rw [hf, cond_true] at h
    obtain rfl := Option.some.inj h
    exact ⟨gc125, by kernel_rfl⟩
def h68 (t : Nat) : Option Hn :=
  none
def a68 (i : Nat) : Option Shape :=
  none
def s68 : Sg := ⟨[(.ty (.pair (.int .u64) (.pair (.arr 32 (.int .u64)) (.int .i64)))), (.ty (.pair (.int .i64) (.pair (.int .i64) (.pair (.int .i64) (.pair (.int .i64) (.pair (.int .i64) (.pair .bool (.pair .bool (.pair (.int .i64) (.int .i64)))))))))), (.ty (.int .i64))], [], ⟨[(0, (.tup [(.ty (.int .i64)), (.ty (.int .u64))]))], [], [], []⟩⟩
noncomputable def f68 (N : Nat) (x : s68.inp) : Option s68.res := fnS N K125 t68 ⟨h68, a68⟩ s68 x
noncomputable def c68 : Ctr := ⟨s68, f68⟩
theorem gc68 : GoodC TBSt 68 c68 := good2 (T := TBSt) (f := 68) (K := K125) (c := c68) (F := t68) (nt := ⟨h68, a68⟩) ⟨fun _ => rfl, rfl⟩ gk125 (by kernel_rfl) rfl (by kernel_rfl) (by kernel_rfl) rfl (by kernel_rfl) (by intro N x; kernel_rfl)
noncomputable def K68 : CTab := fun f svs => bif f.beq 68 then some c68 else K125 f svs
theorem gk68 : GoodK TBSt K68 := by
  intro f svs c h
  unfold K68 at h
  cases hf : f.beq 68 with
  | false => rw [hf] at h; exact gk125 f svs c h
  | true =>
    obtain rfl := Nat.eq_of_beq_eq_true hf
    rw [hf, cond_true] at h
    obtain rfl := Option.some.inj h
    exact ⟨gc68, by kernel_rfl⟩
def h69 (t : Nat) : Option Hn :=
  none
def a69 (i : Nat) : Option Shape :=
  bif i.beq 4 then some ⟨[(5, (.ty .bool))], [], [], []⟩ else none
def s69 : Sg := ⟨[(.ty (.int .i64))], [], ⟨[(0, (.ty .bool))], [], [], []⟩⟩
noncomputable def f69 (N : Nat) (x : s69.inp) : Option s69.res := fnS N K68 t69 ⟨h69, a69⟩ s69 x
noncomputable def c69 : Ctr := ⟨s69, f69⟩
theorem gc69 : GoodC TBSt 69 c69 := good2 (T := TBSt) (f := 69) (K := K68) (c := c69) (F := t69) (nt := ⟨h69, a69⟩) ⟨fun _ => rfl, rfl⟩ gk68 (by kernel_rfl) rfl (by kernel_rfl) (by kernel_rfl) rfl (by kernel_rfl) (by intro N x; kernel_rfl)
noncomputable def K69 : CTab := fun f svs => bif f.beq 69 then some c69 else K68 f svs
theorem gk69 : GoodK TBSt K69 := by
  intro f svs c h
  unfold K69 at h
  cases hf : f.beq 69 with
  | false => rw [hf] at h; exact gk68 f svs c h
  | true =>
    obtain rfl := Nat.eq_of_beq_eq_true hf
    rw [hf, cond_true] at h
    obtain rfl := Option.some.inj h
    exact ⟨gc69, by kernel_rfl⟩
def h73 (t : Nat) : Option Hn :=
  none
def a73 (i : Nat) : Option Shape :=
  bif i.beq 4 then some ⟨[(5, (.ty .bool))], [], [], []⟩ else none
def s73 : Sg := ⟨[(.ty (.int .i64))], [], ⟨[(0, (.ty .bool))], [], [], []⟩⟩
noncomputable def f73 (N : Nat) (x : s73.inp) : Option s73.res := fnS N K69 t73 ⟨h73, a73⟩ s73 x
noncomputable def c73 : Ctr := ⟨s73, f73⟩
theorem gc73 : GoodC TBSt 73 c73 := good2 (T := TBSt) (f := 73) (K := K69) (c := c73) (F := t73) (nt := ⟨h73, a73⟩) ⟨fun _ => rfl, rfl⟩ gk69 (by kernel_rfl) rfl (by kernel_rfl) (by kernel_rfl) rfl (by kernel_rfl) (by intro N x; kernel_rfl)
noncomputable def K73 : CTab := fun f svs => bif f.beq 73 then some c73 else K69 f svs
theorem gk73 : GoodK TBSt K73 := by
  intro f svs c h
  unfold K73 at h
  cases hf : f.beq 73 with
  | false => rw [hf] at h; exact gk69 f svs c h
  | true =>
    obtain rfl := Nat.eq_of_beq_eq_true hf
    rw [hf, cond_true] at h
    obtain rfl := Option.some.inj h
    exact ⟨gc73, by kernel_rfl⟩
def h126 (t : Nat) : Option Hn :=
  none
def a126 (i : Nat) : Option Shape :=
  none
def s126 : Sg := ⟨[(.ty (.int .i64)), (.ty (.int .u64)), (.ty (.int .u64)), (.ty (.int .i64))], [], ⟨[(0, (.ty (.int .u64)))], [], [], []⟩⟩
noncomputable def f126 (N : Nat) (x : s126.inp) : Option s126.res := fnS N K73 t126 ⟨h126, a126⟩ s126 x
noncomputable def c126 : Ctr := ⟨s126, f126⟩
theorem gc126 : GoodC TBSt 126 c126 := good2 (T := TBSt) (f := 126) (K := K73) (c := c126) (F := t126) (nt := ⟨h126, a126⟩) ⟨fun _ => rfl, rfl⟩ gk73 (by kernel_rfl) rfl (by kernel_rfl) (by kernel_rfl) rfl (by kernel_rfl) (by intro N x; kernel_rfl)
noncomputable def K126 : CTab := fun f svs => bif f.beq 126 then some c126 else K73 f svs
theorem gk126 : GoodK TBSt K126 := by
  intro f svs c h
  unfold K126 at h
  cases hf : f.beq 126 with
  | false => rw [hf] at h; exact gk73 f svs c h
  | true =>
    obtain rfl := Nat.eq_of_beq_eq_true hf
    rw [hf, cond_true] at h
    obtain rfl := Option.some.inj h
    exact ⟨gc126, by kernel_rfl⟩
def h74 (t : Nat) : Option Hn :=
  none
def a74 (i : Nat) : Option Shape :=
  bif i.beq 5 then some ⟨[(13, (.ty .bool))], [], [], []⟩ else none
def s74 : Sg := ⟨[(.ty (.int .i64)), (.ty (.int .u64)), (.ty (.int .u64))], [], ⟨[(0, (.ty (.int .u64)))], [], [], []⟩⟩
noncomputable def f74 (N : Nat) (x : s74.inp) : Option s74.res := fnS N K126 t74 ⟨h74, a74⟩ s74 x
noncomputable def c74 : Ctr := ⟨s74, f74⟩
theorem gc74 : GoodC TBSt 74 c74 := good2 (T := TBSt) (f := 74) (K := K126) (c := c74) (F := t74) (nt := ⟨h74, a74⟩) ⟨fun _ => rfl, rfl⟩ gk126 (by kernel_rfl) rfl (by kernel_rfl) (by kernel_rfl) rfl (by kernel_rfl) (by intro N x; kernel_rfl)
noncomputable def K74 : CTab := fun f svs => bif f.beq 74 then some c74 else K126 f svs
theorem gk74 : GoodK TBSt K74 := by
  intro f svs c h
  unfold K74 at h
  cases hf : f.beq 74 with
  | false => rw [hf] at h; exact gk126 f svs c h
  | true =>
    obtain rfl := Nat.eq_of_beq_eq_true hf
    rw [hf, cond_true] at h
    obtain rfl := Option.some.inj h
    exact ⟨gc74, by kernel_rfl⟩
def h128 (t : Nat) : Option Hn :=
  none
def a128 (i : Nat) : Option Shape :=
  none
def s128 : Sg := ⟨[(.ty (.pair (.int .i64) (.pair (.int .i64) (.pair (.int .i64) (.pair (.int .i64) (.pair (.int .i64) (.pair .bool (.pair .bool (.pair (.int .i64) (.int .i64)))))))))), (.ty (.int .u64)), (.ty (.int .u64))], [], ⟨[(0, (.ty .bool))], [], [], []⟩⟩
noncomputable def f128 (N : Nat) (x : s128.inp) : Option s128.res := fnS N K74 t128 ⟨h128, a128⟩ s128 x
noncomputable def c128 : Ctr := ⟨s128, f128⟩
theorem gc128 : GoodC TBSt 128 c128 := good2 (T := TBSt) (f := 128) (K := K74) (c := c128) (F := t128) (nt := ⟨h128, a128⟩) ⟨fun _ => rfl, rfl⟩ gk74 (by kernel_rfl) rfl (by kernel_rfl) (by kernel_rfl) rfl (by kernel_rfl) (by intro N x; kernel_rfl)
noncomputable def K128 : CTab := fun f svs => bif f.beq 128 then some c128 else K74 f svs
theorem gk128 : GoodK TBSt K128 := by
  intro f svs c h
  unfold K128 at h
  cases hf : f.beq 128 with
  | false => rw [hf] at h; exact gk74 f svs c h
  | true =>
    obtain rfl := Nat.eq_of_beq_eq_true hf
    rw [hf, cond_true] at h
    obtain rfl := Option.some.inj h
    exact ⟨gc128, by kernel_rfl⟩
def h75 (t : Nat) : Option Hn :=
  none
def a75 (i : Nat) : Option Shape :=
  bif i.beq 3 then some ⟨[(9, (.ty .bool))], [], [], []⟩ else none
def s75 : Sg := ⟨[(.ty (.pair (.int .i64) (.pair (.int .i64) (.pair (.int .i64) (.pair (.int .i64) (.pair (.int .i64) (.pair .bool (.pair .bool (.pair (.int .i64) (.int .i64)))))))))), (.ty (.int .u64)), (.ty (.int .u64)), (.ty (.int .u64))], [], ⟨[(0, (.ty (.int .u64)))], [], [], []⟩⟩
noncomputable def f75 (N : Nat) (x : s75.inp) : Option s75.res := fnS N K128 t75 ⟨h75, a75⟩ s75 x
noncomputable def c75 : Ctr := ⟨s75, f75⟩
theorem gc75 : GoodC TBSt 75 c75 := good2 (T := TBSt) (f := 75) (K := K128) (c := c75) (F := t75) (nt := ⟨h75, a75⟩) ⟨fun _ => rfl, rfl⟩ gk128 (by kernel_rfl) rfl (by kernel_rfl) (by kernel_rfl) rfl (by kernel_rfl) (by intro N x; kernel_rfl)
noncomputable def K75 : CTab := fun f svs => bif f.beq 75 then some c75 else K128 f svs
theorem gk75 : GoodK TBSt K75 := by
  intro f svs c h
  unfold K75 at h
  cases hf : f.beq 75 with
  | false => rw [hf] at h; exact gk128 f svs c h
  | true =>
    obtain rfl := Nat.eq_of_beq_eq_true hf
    rw [hf, cond_true] at h
    obtain rfl := Option.some.inj h
    exact ⟨gc75, by kernel_rfl⟩
def h130 (t : Nat) : Option Hn :=
  none
def a130 (i : Nat) : Option Shape :=
  bif i.beq 6 then some ⟨[], [], [], []⟩ else bif i.beq 13 then some ⟨[(13, (.ty .bool))], [], [], []⟩ else none
def s130 : Sg := ⟨[(.ty (.int .i64)), (.ty (.int .u64))], [], ⟨[(0, (.ty (.int .u64)))], [], [], []⟩⟩
noncomputable def f130 (N : Nat) (x : s130.inp) : Option s130.res := fnS N K75 t130 ⟨h130, a130⟩ s130 x
noncomputable def c130 : Ctr := ⟨s130, f130⟩
theorem gc130 : GoodC TBSt 130 c130 := good2 (T := TBSt) (f := 130) (K := K75) (c := c130) (F := t130) (nt := ⟨h130, a130⟩) ⟨fun _ => rfl, rfl⟩ gk75 (by kernel_rfl) rfl (by kernel_rfl) (by kernel_rfl) rfl (by kernel_rfl) (by intro N x; kernel_rfl)
noncomputable def K130 : CTab := fun f svs => bif f.beq 130 then some c130 else K75 f svs
theorem gk130 : GoodK TBSt K130 := by
  intro f svs c h
  unfold K130 at h
  cases hf : f.beq 130 with
  | false => rw [hf] at h; exact gk75 f svs c h
  | true =>
    obtain rfl := Nat.eq_of_beq_eq_true hf
    rw [hf, cond_true] at h
    obtain rfl := Option.some.inj h
    exact ⟨gc130, by kernel_rfl⟩
def h180 (t : Nat) : Option Hn :=
  bif t.beq 0 then some (.ty (.arr 13 (.int .i64))) else bif t.beq 1 then some (.ty (.arr 13 (.int .i64))) else none
def a180 (i : Nat) : Option Shape :=
  none
def s180 : Sg := ⟨[], [], ⟨[(0, (.ty (.arr 13 (.int .i64))))], [], [], []⟩⟩
noncomputable def f180 (N : Nat) (x : s180.inp) : Option s180.res := fnS N K130 t180 ⟨h180, a180⟩ s180 x
noncomputable def c180 : Ctr := ⟨s180, f180⟩
theorem gc180 : GoodC TBSt 180 c180 := good2 (T := TBSt) (f := 180) (K := K130) (c := c180) (F := t180) (nt := ⟨h180, a180⟩) ⟨fun _ => rfl, rfl⟩ gk130 (by kernel_rfl) rfl (by kernel_rfl) (by kernel_rfl) rfl (by kernel_rfl) (by intro N x; kernel_rfl)
noncomputable def K180 : CTab := fun f svs => bif f.beq 180 then some c180 else K130 f svs
theorem gk180 : GoodK TBSt K180 := by
  intro f svs c h
  unfold K180 at h
  cases hf : f.beq 180 with
  | false => rw [hf] at h; exact gk130 f svs c h
  | true =>
    obtain rfl := Nat.eq_of_beq_eq_true hf
    rw [hf, cond_true] at h
    obtain rfl := Option.some.inj h
    exact ⟨gc180, by kernel_rfl⟩
def h210 (t : Nat) : Option Hn :=
  none
def a210 (i : Nat) : Option Shape :=
  none
def s210 : Sg := ⟨[(.ty .bool)], [], ⟨[(0, (.ty (.int .u64)))], [], [], []⟩⟩
noncomputable def f210 (N : Nat) (x : s210.inp) : Option s210.res := fnS N K180 t210 ⟨h210, a210⟩ s210 x
noncomputable def c210 : Ctr := ⟨s210, f210⟩
theorem gc210 : GoodC TBSt 210 c210 := good2 (T := TBSt) (f := 210) (K := K180) (c := c210) (F := t210) (nt := ⟨h210, a210⟩) ⟨fun _ => rfl, rfl⟩ gk180 (by kernel_rfl) rfl (by kernel_rfl) (by kernel_rfl) rfl (by kernel_rfl) (by intro N x; kernel_rfl)
noncomputable def K210 : CTab := fun f svs => bif f.beq 210 then some c210 else K180 f svs
theorem gk210 : GoodK TBSt K210 := by
  intro f svs c h
  unfold K210 at h
  cases hf : f.beq 210 with
  | false => rw [hf] at h; exact gk180 f svs c h
  | true =>
    obtain rfl := Nat.eq_of_beq_eq_true hf
    rw [hf, cond_true] at h
    obtain rfl := Option.some.inj h
    exact ⟨gc210, by kernel_rfl⟩
def h211 (t : Nat) : Option Hn :=
  none
def a211 (i : Nat) : Option Shape :=
  none
def s211 : Sg := ⟨[(.ty (.int .u64))], [], ⟨[(0, (.ty (.int .u64)))], [], [], []⟩⟩
noncomputable def f211 (N : Nat) (x : s211.inp) : Option s211.res := fnS N K210 t211 ⟨h211, a211⟩ s211 x
noncomputable def c211 : Ctr := ⟨s211, f211⟩
theorem gc211 : GoodC TBSt 211 c211 := good2 (T := TBSt) (f := 211) (K := K210) (c := c211) (F := t211) (nt := ⟨h211, a211⟩) ⟨fun _ => rfl, rfl⟩ gk210 (by kernel_rfl) rfl (by kernel_rfl) (by kernel_rfl) rfl (by kernel_rfl) (by intro N x; kernel_rfl)
noncomputable def K211 : CTab := fun f svs => bif f.beq 211 then some c211 else K210 f svs
theorem gk211 : GoodK TBSt K211 := by
  intro f svs c h
  unfold K211 at h
  cases hf : f.beq 211 with
  | false => rw [hf] at h; exact gk210 f svs c h
  | true =>
    obtain rfl := Nat.eq_of_beq_eq_true hf
    rw [hf, cond_true] at h
    obtain rfl := Option.some.inj h
    exact ⟨gc211, by kernel_rfl⟩
def h179 (t : Nat) : Option Hn :=
  none
def a179 (i : Nat) : Option Shape :=
  none
def s179 : Sg := ⟨[(.ty (.int .i64)), (.ty (.int .u64)), (.ty (.int .u64))], [], ⟨[(0, (.ty (.int .u64)))], [], [], []⟩⟩
noncomputable def f179 (N : Nat) (x : s179.inp) : Option s179.res := fnS N K211 t179 ⟨h179, a179⟩ s179 x
noncomputable def c179 : Ctr := ⟨s179, f179⟩
theorem gc179 : GoodC TBSt 179 c179 := good2 (T := TBSt) (f := 179) (K := K211) (c := c179) (F := t179) (nt := ⟨h179, a179⟩) ⟨fun _ => rfl, rfl⟩ gk211 (by kernel_rfl) rfl (by kernel_rfl) (by kernel_rfl) rfl (by kernel_rfl) (by intro N x; kernel_rfl)
noncomputable def K179 : CTab := fun f svs => bif f.beq 179 then some c179 else K211 f svs
theorem gk179 : GoodK TBSt K179 := by
  intro f svs c h
  unfold K179 at h
  cases hf : f.beq 179 with
  | false => rw [hf] at h; exact gk211 f svs c h
  | true =>
    obtain rfl := Nat.eq_of_beq_eq_true hf
    rw [hf, cond_true] at h
    obtain rfl := Option.some.inj h
    exact ⟨gc179, by kernel_rfl⟩
def h131 (t : Nat) : Option Hn :=
  none
def a131 (i : Nat) : Option Shape :=
  none
def s131 : Sg := ⟨[(.ty (.pair (.int .i64) (.pair (.int .i64) (.pair (.int .i64) (.pair (.int .i64) (.pair (.int .i64) (.pair .bool (.pair .bool (.pair (.int .i64) (.int .i64)))))))))), (.ty (.int .u64)), (.ty (.int .u64)), (.ty (.int .u64))], [], ⟨[(0, (.ty (.int .u64)))], [], [], []⟩⟩
noncomputable def f131 (N : Nat) (x : s131.inp) : Option s131.res := fnS N K179 t131 ⟨h131, a131⟩ s131 x
noncomputable def c131 : Ctr := ⟨s131, f131⟩
theorem gc131 : GoodC TBSt 131 c131 := good2 (T := TBSt) (f := 131) (K := K179) (c := c131) (F := t131) (nt := ⟨h131, a131⟩) ⟨fun _ => rfl, rfl⟩ gk179 (by kernel_rfl) rfl (by kernel_rfl) (by kernel_rfl) rfl (by kernel_rfl) (by intro N x; kernel_rfl)
noncomputable def K131 : CTab := fun f svs => bif f.beq 131 then some c131 else K179 f svs
theorem gk131 : GoodK TBSt K131 := by
  intro f svs c h
  unfold K131 at h
  cases hf : f.beq 131 with
  | false => rw [hf] at h; exact gk179 f svs c h
  | true =>
    obtain rfl := Nat.eq_of_beq_eq_true hf
    rw [hf, cond_true] at h
    obtain rfl := Option.some.inj h
    exact ⟨gc131, by kernel_rfl⟩
def h77 (t : Nat) : Option Hn :=
  none
def a77 (i : Nat) : Option Shape :=
  none
def s77 : Sg := ⟨[(.ty (.pair (.int .u64) (.pair (.arr 32 (.int .u64)) (.int .i64)))), (.ty (.pair (.int .i64) (.pair (.int .i64) (.pair (.int .i64) (.pair (.int .i64) (.pair (.int .i64) (.pair .bool (.pair .bool (.pair (.int .i64) (.int .i64)))))))))), (.ty (.int .u64)), (.ty .bool)], [], ⟨[(0, (.ty (.int .u64)))], [], [], []⟩⟩
noncomputable def f77 (N : Nat) (x : s77.inp) : Option s77.res := fnS N K131 t77 ⟨h77, a77⟩ s77 x
noncomputable def c77 : Ctr := ⟨s77, f77⟩
theorem gc77 : GoodC TBSt 77 c77 := good2 (T := TBSt) (f := 77) (K := K131) (c := c77) (F := t77) (nt := ⟨h77, a77⟩) ⟨fun _ => rfl, rfl⟩ gk131 (by kernel_rfl) rfl (by kernel_rfl) (by kernel_rfl) rfl (by kernel_rfl) (by intro N x; kernel_rfl)
noncomputable def K77 : CTab := fun f svs => bif f.beq 77 then some c77 else K131 f svs
theorem gk77 : GoodK TBSt K77 := by
  intro f svs c h
  unfold K77 at h
  cases hf : f.beq 77 with
  | false => rw [hf] at h; exact gk131 f svs c h
  | true =>
    obtain rfl := Nat.eq_of_beq_eq_true hf
    rw [hf, cond_true] at h
    obtain rfl := Option.some.inj h
    exact ⟨gc77, by kernel_rfl⟩
def h29 (t : Nat) : Option Hn :=
  bif t.beq 8 then some (.ty (.pair (.int .u64) (.pair (.arr 32 (.int .u64)) (.int .i64)))) else bif t.beq 9 then some (.ty (.pair (.int .u64) (.pair (.pair (.int .i64) (.pair (.int .i64) (.pair (.int .i64) (.pair (.int .i64) (.pair (.int .i64) (.pair .bool (.pair .bool (.pair (.int .i64) (.int .i64))))))))) (.pair (.int .i64) (.pair (.int .u64) (.pair (.int .u64) (.pair (.int .u64) (.pair (.int .u64) .bool)))))))) else bif t.beq 10 then some (.ty (.pair (.int .i64) (.pair (.int .i64) (.pair (.int .i64) (.pair (.int .i64) (.pair (.int .i64) (.pair .bool (.pair .bool (.pair (.int .i64) (.int .i64)))))))))) else bif t.beq 12 then some (.ty (.pair (.int .u64) (.pair (.pair (.int .i64) (.pair (.int .i64) (.pair (.int .i64) (.pair (.int .i64) (.pair (.int .i64) (.pair .bool (.pair .bool (.pair (.int .i64) (.int .i64))))))))) (.pair (.int .i64) (.pair (.int .u64) (.pair (.int .u64) (.pair (.int .u64) (.pair (.int .u64) .bool)))))))) else bif t.beq 21 then some (.ty (.pair (.int .u64) (.pair (.pair (.int .i64) (.pair (.int .i64) (.pair (.int .i64) (.pair (.int .i64) (.pair (.int .i64) (.pair .bool (.pair .bool (.pair (.int .i64) (.int .i64))))))))) (.pair (.int .i64) (.pair (.int .u64) (.pair (.int .u64) (.pair (.int .u64) (.pair (.int .u64) .bool)))))))) else bif t.beq 33 then some (.ty (.pair (.int .u64) (.pair (.pair (.int .i64) (.pair (.int .i64) (.pair (.int .i64) (.pair (.int .i64) (.pair (.int .i64) (.pair .bool (.pair .bool (.pair (.int .i64) (.int .i64))))))))) (.pair (.int .i64) (.pair (.int .u64) (.pair (.int .u64) (.pair (.int .u64) (.pair (.int .u64) .bool)))))))) else none
def a29 (i : Nat) : Option Shape :=
  bif i.beq 8 then some ⟨[], [(5, (.one (.ty (.pair (.int .u64) (.pair (.pair (.int .i64) (.pair (.int .i64) (.pair (.int .i64) (.pair (.int .i64) (.pair (.int .i64) (.pair .bool (.pair .bool (.pair (.int .i64) (.int .i64))))))))) (.pair (.int .i64) (.pair (.int .u64) (.pair (.int .u64) (.pair (.int .u64) (.pair (.int .u64) .bool))))))))))], [], []⟩ else bif i.beq 16 then some ⟨[], [(5, (.one (.ty (.pair (.int .u64) (.pair (.pair (.int .i64) (.pair (.int .i64) (.pair (.int .i64) (.pair (.int .i64) (.pair (.int .i64) (.pair .bool (.pair .bool (.pair (.int .i64) (.int .i64))))))))) (.pair (.int .i64) (.pair (.int .u64) (.pair (.int .u64) (.pair (.int .u64) (.pair (.int .u64) .bool))))))))))], [], []⟩ else bif i.beq 19 then some ⟨[], [(5, (.one (.ty (.pair (.int .u64) (.pair (.pair (.int .i64) (.pair (.int .i64) (.pair (.int .i64) (.pair (.int .i64) (.pair (.int .i64) (.pair .bool (.pair .bool (.pair (.int .i64) (.int .i64))))))))) (.pair (.int .i64) (.pair (.int .u64) (.pair (.int .u64) (.pair (.int .u64) (.pair (.int .u64) .bool))))))))))], [], []⟩ else bif i.beq 20 then some ⟨[], [(5, (.one (.ty (.pair (.int .u64) (.pair (.pair (.int .i64) (.pair (.int .i64) (.pair (.int .i64) (.pair (.int .i64) (.pair (.int .i64) (.pair .bool (.pair .bool (.pair (.int .i64) (.int .i64))))))))) (.pair (.int .i64) (.pair (.int .u64) (.pair (.int .u64) (.pair (.int .u64) (.pair (.int .u64) .bool))))))))))], [], []⟩ else bif i.beq 21 then some ⟨[(79, (.ty .bool))], [], [], []⟩ else bif i.beq 24 then some ⟨[], [(1, (.one (.segs [(.ty (.pair (.int .u64) (.pair (.arr 32 (.int .u64)) (.int .i64))))]))), (5, (.one (.ty (.pair (.int .u64) (.pair (.pair (.int .i64) (.pair (.int .i64) (.pair (.int .i64) (.pair (.int .i64) (.pair (.int .i64) (.pair .bool (.pair .bool (.pair (.int .i64) (.int .i64))))))))) (.pair (.int .i64) (.pair (.int .u64) (.pair (.int .u64) (.pair (.int .u64) (.pair (.int .u64) .bool))))))))))], [], []⟩ else none
def s29 : Sg := ⟨[(.ty (.pair (.int .u64) (.pair (.arr 32 (.int .u64)) (.int .i64)))), (.sla 0 .any), (.ty (.int .u64)), (.ty .bool)], [⟨false, (.many (.int .u8))⟩], ⟨[(0, (.tup [(.ty (.pair (.int .u64) (.pair (.arr 32 (.int .u64)) (.int .i64)))), (.ty (.pair (.int .u64) (.pair (.pair (.int .i64) (.pair (.int .i64) (.pair (.int .i64) (.pair (.int .i64) (.pair (.int .i64) (.pair .bool (.pair .bool (.pair (.int .i64) (.int .i64))))))))) (.pair (.int .i64) (.pair (.int .u64) (.pair (.int .u64) (.pair (.int .u64) (.pair (.int .u64) .bool))))))))]))], [], [], []⟩⟩
noncomputable def f29 (N : Nat) (x : s29.inp) : Option s29.res := fnS N K77 t29 ⟨h29, a29⟩ s29 x
noncomputable def c29 : Ctr := ⟨s29, f29⟩
theorem gc29 : GoodC TBSt 29 c29 := good1 (T := TBSt) (f := 29) (K := K77) (c := c29) (F := t29) (nt := ⟨h29, a29⟩) ⟨fun _ => rfl, rfl⟩ gk77 (by kernel_rfl) rfl (by kernel_rfl) (by kernel_rfl) (by intro N x; kernel_rfl)
noncomputable def K29 : CTab := fun f svs => bif f.beq 29 then some c29 else K77 f svs
theorem gk29 : GoodK TBSt K29 := by
  intro f svs c h
  unfold K29 at h
  cases hf : f.beq 29 with
  | false => rw [hf] at h; exact gk77 f svs c h
  | true =>
    obtain rfl := Nat.eq_of_beq_eq_true hf
    rw [hf, cond_true] at h
    obtain rfl := Option.some.inj h
    exact ⟨gc29, by kernel_rfl⟩
def h9 (t : Nat) : Option Hn :=
  bif t.beq 9 then some (.ty (.pair (.int .u64) (.pair (.arr 32 (.int .u64)) (.int .i64)))) else bif t.beq 10 then some (.ty (.pair (.int .u64) (.pair (.pair (.int .i64) (.pair (.int .i64) (.pair (.int .i64) (.pair (.int .i64) (.pair (.int .i64) (.pair .bool (.pair .bool (.pair (.int .i64) (.int .i64))))))))) (.pair (.int .i64) (.pair (.int .u64) (.pair (.int .u64) (.pair (.int .u64) (.pair (.int .u64) .bool)))))))) else bif t.beq 11 then some (.ty (.pair (.int .u64) (.pair (.arr 32 (.int .u64)) (.int .i64)))) else bif t.beq 12 then some (.ty (.pair (.int .u64) (.pair (.pair (.int .i64) (.pair (.int .i64) (.pair (.int .i64) (.pair (.int .i64) (.pair (.int .i64) (.pair .bool (.pair .bool (.pair (.int .i64) (.int .i64))))))))) (.pair (.int .i64) (.pair (.int .u64) (.pair (.int .u64) (.pair (.int .u64) (.pair (.int .u64) .bool)))))))) else bif t.beq 50 then some (.ty (.pair (.int .u64) (.pair (.pair (.int .i64) (.pair (.int .i64) (.pair (.int .i64) (.pair (.int .i64) (.pair (.int .i64) (.pair .bool (.pair .bool (.pair (.int .i64) (.int .i64))))))))) (.pair (.int .i64) (.pair (.int .u64) (.pair (.int .u64) (.pair (.int .u64) (.pair (.int .u64) .bool)))))))) else none
def a9 (i : Nat) : Option Shape :=
  bif i.beq 15 then some ⟨[(8, (.ty .bool))], [], [], []⟩ else none
def s9 : Sg := ⟨[(.ty (.pair (.int .u64) (.pair (.arr 32 (.int .u64)) (.int .i64)))), (.sla 0 .any), (.ty (.int .u64)), (.ty .bool)], [⟨false, (.many (.int .u8))⟩], ⟨[(0, (.ty .bool))], [], [], []⟩⟩
noncomputable def f9 (N : Nat) (x : s9.inp) : Option s9.res := fnS N K29 t9 ⟨h9, a9⟩ s9 x
noncomputable def c9 : Ctr := ⟨s9, f9⟩
theorem gc9 : GoodC TBSt 9 c9 := good1 (T := TBSt) (f := 9) (K := K29) (c := c9) (F := t9) (nt := ⟨h9, a9⟩) ⟨fun _ => rfl, rfl⟩ gk29 (by kernel_rfl) rfl (by kernel_rfl) (by kernel_rfl) (by intro N x; kernel_rfl)
noncomputable def K9 : CTab := fun f svs => bif f.beq 9 then some c9 else K29 f svs
theorem gk9 : GoodK TBSt K9 := by
  intro f svs c h
  unfold K9 at h
  cases hf : f.beq 9 with
  | false => rw [hf] at h; exact gk29 f svs c h
  | true =>
    obtain rfl := Nat.eq_of_beq_eq_true hf
    rw [hf, cond_true] at h
    obtain rfl := Option.some.inj h
    exact ⟨gc9, by kernel_rfl⟩
end Go.Proofs.YtkcfkegkhopakaaGreatDoor
