/- Contracts of functions, by their bodies and shapes. No condition. -/
import Derived.Test.YtipdancojcdioaaShR
import Derived.Test.YtipdancojcdioaaTabDe
import Derived.KernelRfl
namespace Go.Proofs.Ytipdancojcdioaa
open Go Go.Ev Go.Sh
set_option maxRecDepth 100000
set_option linter.unusedVariables false
theorem noSpDe : NoSp TBDe := fun _ _ => rfl
def K0De : CTab := fun _ _ => none
theorem gk0De : GoodK TBDe K0De := fun _ _ _ h => by cases h
def h104 (t : Nat) : Option Hn :=
  none
def a104 (i : Nat) : Option Shape :=
  none
def s104 : Sg := ⟨[(.ty (.int .u64)), (.ty (.int .i64))], [], ⟨[(0, (.ty (.int .u64)))], [], [], []⟩⟩
def f104 (N : Nat) (x : s104.inp) : Option s104.res := fnS N K0De t104 ⟨h104, a104⟩ s104 x
def c104 : Ctr := ⟨s104, f104⟩
theorem gc104 : GoodC TBDe 104 c104 := good2 (T := TBDe) (f := 104) (K := K0De) (c := c104) (F := t104) (nt := ⟨h104, a104⟩) noSpDe gk0De (by kernel_rfl) rfl (by kernel_rfl) (by kernel_rfl) rfl (by kernel_rfl) (by intro N x; kernel_rfl)
def K104 : CTab := fun f svs => bif f.beq 104 then some c104 else K0De f svs
theorem gk104 : GoodK TBDe K104 := by
  intro f svs c h
  unfold K104 at h
  cases hf : f.beq 104 with
  | false => rw [hf] at h; exact gk0De f svs c h
  | true =>
    obtain rfl := Nat.eq_of_beq_eq_true hf
    rw [hf, cond_true] at h
    obtain rfl := Option.some.inj h
    exact ⟨gc104, by kernel_rfl⟩
def h97 (t : Nat) : Option Hn :=
  none
def a97 (i : Nat) : Option Shape :=
  bif i.beq 2 then some ⟨[(17, (.ty .bool))], [], [], []⟩ else none
def s97 : Sg := ⟨[(.ty (.int .u32)), (.ty (.int .i64)), (.ty (.int .i64))], [], ⟨[(0, (.ty (.int .u32)))], [], [], []⟩⟩
def f97 (N : Nat) (x : s97.inp) : Option s97.res := fnS N K104 t97 ⟨h97, a97⟩ s97 x
def c97 : Ctr := ⟨s97, f97⟩
theorem gc97 : GoodC TBDe 97 c97 := good2 (T := TBDe) (f := 97) (K := K104) (c := c97) (F := t97) (nt := ⟨h97, a97⟩) noSpDe gk104 (by kernel_rfl) rfl (by kernel_rfl) (by kernel_rfl) rfl (by kernel_rfl) (by intro N x; kernel_rfl)
def K97 : CTab := fun f svs => bif f.beq 97 then some c97 else K104 f svs
theorem gk97 : GoodK TBDe K97 := by
  intro f svs c h
  unfold K97 at h
  cases hf : f.beq 97 with
  | false => rw [hf] at h; exact gk104 f svs c h
  | true =>
    obtain rfl := Nat.eq_of_beq_eq_true hf
    rw [hf, cond_true] at h
    obtain rfl := Option.some.inj h
    exact ⟨gc97, by kernel_rfl⟩
def h96 (t : Nat) : Option Hn :=
  none
def a96 (i : Nat) : Option Shape :=
  none
def s96 : Sg := ⟨[(.ty (.int .i64)), (.ty (.int .i64)), (.ptr 0)], [⟨false, (.one (.segs [(.ty (.int .u32))]))⟩], ⟨[(0, (.ty (.int .u32)))], [], [], []⟩⟩
def f96 (N : Nat) (x : s96.inp) : Option s96.res := fnS N K97 t96 ⟨h96, a96⟩ s96 x
def c96 : Ctr := ⟨s96, f96⟩
theorem gc96 : GoodC TBDe 96 c96 := good1 (T := TBDe) (f := 96) (K := K97) (c := c96) (F := t96) (nt := ⟨h96, a96⟩) noSpDe gk97 (by kernel_rfl) rfl (by kernel_rfl) (by kernel_rfl) (by intro N x; kernel_rfl)
def K96 : CTab := fun f svs => bif f.beq 96 then some c96 else K97 f svs
theorem gk96 : GoodK TBDe K96 := by
  intro f svs c h
  unfold K96 at h
  cases hf : f.beq 96 with
  | false => rw [hf] at h; exact gk97 f svs c h
  | true =>
    obtain rfl := Nat.eq_of_beq_eq_true hf
    rw [hf, cond_true] at h
    obtain rfl := Option.some.inj h
    exact ⟨gc96, by kernel_rfl⟩
def h80 (t : Nat) : Option Hn :=
  bif t.beq 2 then some (.ty (.pair (.int .u32) (.pair (.int .i64) (.pair (.int .i64) (.pair (.int .i64) (.pair (.int .u32) (.int .u32))))))) else bif t.beq 19 then some (.ty (.pair (.int .u32) (.pair (.int .i64) (.pair (.int .i64) (.pair (.int .i64) (.pair (.int .u32) (.int .u32))))))) else none
def a80 (i : Nat) : Option Shape :=
  none
def s80 : Sg := ⟨[(.ty (.int .u32))], [], ⟨[(0, (.ty (.pair (.int .u32) (.pair (.int .i64) (.pair (.int .i64) (.pair (.int .i64) (.pair (.int .u32) (.int .u32))))))))], [], [], []⟩⟩
def f80 (N : Nat) (x : s80.inp) : Option s80.res := fnS N K96 t80 ⟨h80, a80⟩ s80 x
def c80 : Ctr := ⟨s80, f80⟩
theorem gc80 : GoodC TBDe 80 c80 := good2 (T := TBDe) (f := 80) (K := K96) (c := c80) (F := t80) (nt := ⟨h80, a80⟩) noSpDe gk96 (by kernel_rfl) rfl (by kernel_rfl) (by kernel_rfl) rfl (by kernel_rfl) (by intro N x; kernel_rfl)
def K80 : CTab := fun f svs => bif f.beq 80 then some c80 else K96 f svs
theorem gk80 : GoodK TBDe K80 := by
  intro f svs c h
  unfold K80 at h
  cases hf : f.beq 80 with
  | false => rw [hf] at h; exact gk96 f svs c h
  | true =>
    obtain rfl := Nat.eq_of_beq_eq_true hf
    rw [hf, cond_true] at h
    obtain rfl := Option.some.inj h
    exact ⟨gc80, by kernel_rfl⟩
def h105 (t : Nat) : Option Hn :=
  bif t.beq 1 then some (.ty (.pair (.int .i64) (.pair (.int .i64) (.int .i64)))) else bif t.beq 2 then some (.ty (.pair (.int .i64) (.pair (.int .i64) (.int .i64)))) else bif t.beq 3 then some (.parts [some (.int .i64), some (.int .i64), none]) else bif t.beq 4 then some (.ty (.pair (.int .i64) (.pair (.int .i64) (.int .i64)))) else bif t.beq 5 then some (.ty (.pair (.int .i64) (.pair (.int .i64) (.int .i64)))) else bif t.beq 6 then some (.ty (.pair (.int .i64) (.pair (.int .i64) (.int .i64)))) else bif t.beq 7 then some (.parts [some (.int .i64), some (.int .i64), none]) else bif t.beq 8 then some (.ty (.pair (.int .i64) (.pair (.int .i64) (.int .i64)))) else bif t.beq 9 then some (.ty (.pair (.int .i64) (.pair (.int .i64) (.int .i64)))) else bif t.beq 10 then some (.ty (.pair (.int .i64) (.pair (.int .i64) (.int .i64)))) else bif t.beq 11 then some (.ty (.pair (.int .i64) (.pair (.int .i64) (.int .i64)))) else bif t.beq 12 then some (.ty (.pair (.int .i64) (.pair (.int .i64) (.int .i64)))) else bif t.beq 13 then some (.parts [some (.int .i64), some (.int .i64), none]) else bif t.beq 14 then some (.ty (.pair (.int .i64) (.pair (.int .i64) (.int .i64)))) else bif t.beq 15 then some (.ty (.pair (.int .i64) (.pair (.int .i64) (.int .i64)))) else bif t.beq 16 then some (.parts [some (.int .i64), some (.int .i64), none]) else bif t.beq 17 then some (.ty (.pair (.int .i64) (.pair (.int .i64) (.int .i64)))) else bif t.beq 18 then some (.ty (.pair (.int .i64) (.pair (.int .i64) (.int .i64)))) else bif t.beq 19 then some (.ty (.pair (.int .i64) (.pair (.int .i64) (.int .i64)))) else bif t.beq 20 then some (.ty (.pair (.int .i64) (.pair (.int .i64) (.int .i64)))) else bif t.beq 21 then some (.ty (.pair (.int .i64) (.pair (.int .i64) (.int .i64)))) else bif t.beq 22 then some (.parts [some (.int .i64), some (.int .i64), none]) else none
def a105 (i : Nat) : Option Shape :=
  none
def s105 : Sg := ⟨[], [], ⟨[(0, (.segs [(.ty (.int .i64)), (.ty (.int .i64)), .nils, (.ty (.int .i64)), (.ty (.int .i64)), (.sla 0 .yes), (.ty (.int .i64)), (.ty (.int .i64)), (.sla 1 .yes), (.ty (.int .i64)), (.ty (.int .i64)), (.sla 2 .yes), (.ty (.int .i64)), (.ty (.int .i64)), (.sla 3 .yes), (.ty (.int .i64)), (.ty (.int .i64)), (.sla 4 .yes)]))], [], [], [⟨true, (.many (.pair (.int .i64) (.pair (.int .i64) (.int .i64))))⟩, ⟨true, (.many (.pair (.int .i64) (.pair (.int .i64) (.int .i64))))⟩, ⟨true, (.many (.pair (.int .i64) (.pair (.int .i64) (.int .i64))))⟩, ⟨true, (.many (.pair (.int .i64) (.pair (.int .i64) (.int .i64))))⟩, ⟨true, (.many (.pair (.int .i64) (.pair (.int .i64) (.int .i64))))⟩]⟩⟩
def f105 (N : Nat) (x : s105.inp) : Option s105.res := fnS N K80 t105 ⟨h105, a105⟩ s105 x
def c105 : Ctr := ⟨s105, f105⟩
theorem gc105 : GoodC TBDe 105 c105 := good0 (T := TBDe) (f := 105) (K := K80) (c := c105) (F := t105) (nt := ⟨h105, a105⟩) noSpDe gk80 (by kernel_rfl) rfl (by kernel_rfl) (by intro N x; kernel_rfl)
def K105 : CTab := fun f svs => bif f.beq 105 then some c105 else K80 f svs
theorem gk105 : GoodK TBDe K105 := by
  intro f svs c h
  unfold K105 at h
  cases hf : f.beq 105 with
  | false => rw [hf] at h; exact gk80 f svs c h
  | true =>
    obtain rfl := Nat.eq_of_beq_eq_true hf
    rw [hf, cond_true] at h
    obtain rfl := Option.some.inj h
    exact ⟨gc105, by kernel_rfl⟩
def h102 (t : Nat) : Option Hn :=
  bif t.beq 2 then some (.parts [some (.int .i64), some (.int .i64), none]) else bif t.beq 10 then some (.parts [some (.int .i64), some (.int .i64), none]) else none
def a102 (i : Nat) : Option Shape :=
  bif i.beq 2 then some ⟨[(9, (.ty .bool))], [], [], []⟩ else bif i.beq 5 then some ⟨[(3, (.ty .bool))], [(0, (.one (.segs [(.ty (.int .i64)), (.ty (.int .i64)), (.sla 1 .yes)])))], [], [⟨true, (.many (.pair (.int .i64) (.pair (.int .i64) (.int .i64))))⟩]⟩ else none
def s102 : Sg := ⟨[(.ty (.int .i64))], [], ⟨[(0, (.tup [(.segs [(.ty (.int .i64)), (.ty (.int .i64)), (.sla 0 .yes)]), (.ty .bool)]))], [], [], [⟨true, (.many (.pair (.int .i64) (.pair (.int .i64) (.int .i64))))⟩]⟩⟩
def f102 (N : Nat) (x : s102.inp) : Option s102.res := fnS N K105 t102 ⟨h102, a102⟩ s102 x
def c102 : Ctr := ⟨s102, f102⟩
theorem gc102 : GoodC TBDe 102 c102 := good0 (T := TBDe) (f := 102) (K := K105) (c := c102) (F := t102) (nt := ⟨h102, a102⟩) noSpDe gk105 (by kernel_rfl) rfl (by kernel_rfl) (by intro N x; kernel_rfl)
def K102 : CTab := fun f svs => bif f.beq 102 then some c102 else K105 f svs
theorem gk102 : GoodK TBDe K102 := by
  intro f svs c h
  unfold K102 at h
  cases hf : f.beq 102 with
  | false => rw [hf] at h; exact gk105 f svs c h
  | true =>
    obtain rfl := Nat.eq_of_beq_eq_true hf
    rw [hf, cond_true] at h
    obtain rfl := Option.some.inj h
    exact ⟨gc102, by kernel_rfl⟩
def h103 (t : Nat) : Option Hn :=
  none
def a103 (i : Nat) : Option Shape :=
  bif i.beq 2 then some ⟨[(10, (.ty .bool))], [], [], []⟩ else none
def s103 : Sg := ⟨[(.ty (.int .u64)), (.ty (.int .i64))], [], ⟨[(0, (.ty (.int .u64)))], [], [], []⟩⟩
def f103 (N : Nat) (x : s103.inp) : Option s103.res := fnS N K102 t103 ⟨h103, a103⟩ s103 x
def c103 : Ctr := ⟨s103, f103⟩
theorem gc103 : GoodC TBDe 103 c103 := good2 (T := TBDe) (f := 103) (K := K102) (c := c103) (F := t103) (nt := ⟨h103, a103⟩) noSpDe gk102 (by kernel_rfl) rfl (by kernel_rfl) (by kernel_rfl) rfl (by kernel_rfl) (by intro N x; kernel_rfl)
def K103 : CTab := fun f svs => bif f.beq 103 then some c103 else K102 f svs
theorem gk103 : GoodK TBDe K103 := by
  intro f svs c h
  unfold K103 at h
  cases hf : f.beq 103 with
  | false => rw [hf] at h; exact gk102 f svs c h
  | true =>
    obtain rfl := Nat.eq_of_beq_eq_true hf
    rw [hf, cond_true] at h
    obtain rfl := Option.some.inj h
    exact ⟨gc103, by kernel_rfl⟩
def h88 (t : Nat) : Option Hn :=
  bif t.beq 5 then some (.parts [some (.int .i64), some (.int .i64), none]) else bif t.beq 9 then some (.ty (.pair (.int .i64) (.pair (.int .i64) (.int .i64)))) else none
def a88 (i : Nat) : Option Shape :=
  bif i.beq 10 then some ⟨[(7, (.ty (.int .u64))), (20, (.ty (.int .i64)))], [], [], []⟩ else none
def s88 : Sg := ⟨[(.ty (.int .i64)), (.ty (.int .u32))], [], ⟨[(0, (.ty (.int .i64)))], [], [], []⟩⟩
def f88 (N : Nat) (x : s88.inp) : Option s88.res := fnS N K103 t88 ⟨h88, a88⟩ s88 x
def c88 : Ctr := ⟨s88, f88⟩
theorem gc88 : GoodC TBDe 88 c88 := good2 (T := TBDe) (f := 88) (K := K103) (c := c88) (F := t88) (nt := ⟨h88, a88⟩) noSpDe gk103 (by kernel_rfl) rfl (by kernel_rfl) (by kernel_rfl) rfl (by kernel_rfl) (by intro N x; kernel_rfl)
def K88 : CTab := fun f svs => bif f.beq 88 then some c88 else K103 f svs
theorem gk88 : GoodK TBDe K88 := by
  intro f svs c h
  unfold K88 at h
  cases hf : f.beq 88 with
  | false => rw [hf] at h; exact gk103 f svs c h
  | true =>
    obtain rfl := Nat.eq_of_beq_eq_true hf
    rw [hf, cond_true] at h
    obtain rfl := Option.some.inj h
    exact ⟨gc88, by kernel_rfl⟩
def h89 (t : Nat) : Option Hn :=
  bif t.beq 6 then some (.ty (.arr 8 (.int .i64))) else bif t.beq 41 then some (.ty (.arr 8 (.int .i64))) else none
def a89 (i : Nat) : Option Shape :=
  bif i.beq 5 then some ⟨[(14, (.ty .bool))], [], [], []⟩ else bif i.beq 8 then some ⟨[(23, (.ty .bool))], [], [], []⟩ else bif i.beq 11 then some ⟨[(32, (.ty .bool))], [], [], []⟩ else none
def s89 : Sg := ⟨[(.ty (.pair (.int .u32) (.pair (.int .i64) (.pair (.int .i64) (.pair (.int .i64) (.pair (.int .u32) (.int .u32)))))))], [], ⟨[(0, (.tup [(.ty (.int .i64)), (.ty (.int .i64))]))], [], [], []⟩⟩
def f89 (N : Nat) (x : s89.inp) : Option s89.res := fnS N K88 t89 ⟨h89, a89⟩ s89 x
def c89 : Ctr := ⟨s89, f89⟩
theorem gc89 : GoodC TBDe 89 c89 := good2 (T := TBDe) (f := 89) (K := K88) (c := c89) (F := t89) (nt := ⟨h89, a89⟩) noSpDe gk88 (by kernel_rfl) rfl (by kernel_rfl) (by kernel_rfl) rfl (by kernel_rfl) (by intro N x; kernel_rfl)
def K89 : CTab := fun f svs => bif f.beq 89 then some c89 else K88 f svs
theorem gk89 : GoodK TBDe K89 := by
  intro f svs c h
  unfold K89 at h
  cases hf : f.beq 89 with
  | false => rw [hf] at h; exact gk88 f svs c h
  | true =>
    obtain rfl := Nat.eq_of_beq_eq_true hf
    rw [hf, cond_true] at h
    obtain rfl := Option.some.inj h
    exact ⟨gc89, by kernel_rfl⟩
def h90 (t : Nat) : Option Hn :=
  none
def a90 (i : Nat) : Option Shape :=
  bif i.beq 6 then some ⟨[(11, (.ty .bool))], [], [], []⟩ else bif i.beq 9 then some ⟨[(22, (.ty .bool))], [], [], []⟩ else bif i.beq 12 then some ⟨[(33, (.ty .bool))], [], [], []⟩ else none
def s90 : Sg := ⟨[(.ty (.pair (.int .u32) (.pair (.int .i64) (.pair (.int .i64) (.pair (.int .i64) (.pair (.int .u32) (.int .u32)))))))], [], ⟨[(0, (.tup [(.ty (.int .i64)), (.ty (.int .i64))]))], [], [], []⟩⟩
def f90 (N : Nat) (x : s90.inp) : Option s90.res := fnS N K89 t90 ⟨h90, a90⟩ s90 x
def c90 : Ctr := ⟨s90, f90⟩
theorem gc90 : GoodC TBDe 90 c90 := good2 (T := TBDe) (f := 90) (K := K89) (c := c90) (F := t90) (nt := ⟨h90, a90⟩) noSpDe gk89 (by kernel_rfl) rfl (by kernel_rfl) (by kernel_rfl) rfl (by kernel_rfl) (by intro N x; kernel_rfl)
def K90 : CTab := fun f svs => bif f.beq 90 then some c90 else K89 f svs
theorem gk90 : GoodK TBDe K90 := by
  intro f svs c h
  unfold K90 at h
  cases hf : f.beq 90 with
  | false => rw [hf] at h; exact gk89 f svs c h
  | true =>
    obtain rfl := Nat.eq_of_beq_eq_true hf
    rw [hf, cond_true] at h
    obtain rfl := Option.some.inj h
    exact ⟨gc90, by kernel_rfl⟩
def h91 (t : Nat) : Option Hn :=
  bif t.beq 0 then some (.ty (.arr 8 (.int .i64))) else bif t.beq 1 then some (.ty (.arr 8 (.int .i64))) else bif t.beq 2 then some (.ty (.arr 8 (.int .i64))) else bif t.beq 3 then some (.ty (.arr 8 (.int .i64))) else none
def a91 (i : Nat) : Option Shape :=
  none
def s91 : Sg := ⟨[], [], ⟨[(0, (.tup [(.ty (.arr 8 (.int .i64))), (.ty (.arr 8 (.int .i64)))]))], [], [], []⟩⟩
def f91 (N : Nat) (x : s91.inp) : Option s91.res := fnS N K90 t91 ⟨h91, a91⟩ s91 x
def c91 : Ctr := ⟨s91, f91⟩
theorem gc91 : GoodC TBDe 91 c91 := good2 (T := TBDe) (f := 91) (K := K90) (c := c91) (F := t91) (nt := ⟨h91, a91⟩) noSpDe gk90 (by kernel_rfl) rfl (by kernel_rfl) (by kernel_rfl) rfl (by kernel_rfl) (by intro N x; kernel_rfl)
def K91 : CTab := fun f svs => bif f.beq 91 then some c91 else K90 f svs
theorem gk91 : GoodK TBDe K91 := by
  intro f svs c h
  unfold K91 at h
  cases hf : f.beq 91 with
  | false => rw [hf] at h; exact gk90 f svs c h
  | true =>
    obtain rfl := Nat.eq_of_beq_eq_true hf
    rw [hf, cond_true] at h
    obtain rfl := Option.some.inj h
    exact ⟨gc91, by kernel_rfl⟩
def h92 (t : Nat) : Option Hn :=
  none
def a92 (i : Nat) : Option Shape :=
  none
def s92 : Sg := ⟨[(.ty (.pair (.int .u32) (.pair (.int .i64) (.pair (.int .i64) (.pair (.int .i64) (.pair (.int .u32) (.int .u32))))))), (.ty (.arr 8 (.int .i64))), (.ty (.arr 8 (.int .i64)))], [], ⟨[(0, (.ty (.int .i64)))], [], [], []⟩⟩
def f92 (N : Nat) (x : s92.inp) : Option s92.res := fnS N K91 t92 ⟨h92, a92⟩ s92 x
def c92 : Ctr := ⟨s92, f92⟩
theorem gc92 : GoodC TBDe 92 c92 := good2 (T := TBDe) (f := 92) (K := K91) (c := c92) (F := t92) (nt := ⟨h92, a92⟩) noSpDe gk91 (by kernel_rfl) rfl (by kernel_rfl) (by kernel_rfl) rfl (by kernel_rfl) (by intro N x; kernel_rfl)
def K92 : CTab := fun f svs => bif f.beq 92 then some c92 else K91 f svs
theorem gk92 : GoodK TBDe K92 := by
  intro f svs c h
  unfold K92 at h
  cases hf : f.beq 92 with
  | false => rw [hf] at h; exact gk91 f svs c h
  | true =>
    obtain rfl := Nat.eq_of_beq_eq_true hf
    rw [hf, cond_true] at h
    obtain rfl := Option.some.inj h
    exact ⟨gc92, by kernel_rfl⟩
def h93 (t : Nat) : Option Hn :=
  bif t.beq 0 then some (.ty (.arr 8 (.int .i64))) else bif t.beq 1 then some (.ty (.arr 8 (.int .i64))) else bif t.beq 2 then some (.ty (.arr 8 (.int .i64))) else bif t.beq 3 then some (.ty (.arr 8 (.int .i64))) else none
def a93 (i : Nat) : Option Shape :=
  none
def s93 : Sg := ⟨[], [], ⟨[(0, (.tup [(.ty (.arr 8 (.int .i64))), (.ty (.arr 8 (.int .i64)))]))], [], [], []⟩⟩
def f93 (N : Nat) (x : s93.inp) : Option s93.res := fnS N K92 t93 ⟨h93, a93⟩ s93 x
def c93 : Ctr := ⟨s93, f93⟩
theorem gc93 : GoodC TBDe 93 c93 := good2 (T := TBDe) (f := 93) (K := K92) (c := c93) (F := t93) (nt := ⟨h93, a93⟩) noSpDe gk92 (by kernel_rfl) rfl (by kernel_rfl) (by kernel_rfl) rfl (by kernel_rfl) (by intro N x; kernel_rfl)
def K93 : CTab := fun f svs => bif f.beq 93 then some c93 else K92 f svs
theorem gk93 : GoodK TBDe K93 := by
  intro f svs c h
  unfold K93 at h
  cases hf : f.beq 93 with
  | false => rw [hf] at h; exact gk92 f svs c h
  | true =>
    obtain rfl := Nat.eq_of_beq_eq_true hf
    rw [hf, cond_true] at h
    obtain rfl := Option.some.inj h
    exact ⟨gc93, by kernel_rfl⟩
def h94 (t : Nat) : Option Hn :=
  bif t.beq 2 then some (.ty (.pair (.int .i64) (.pair (.int .i64) (.pair (.int .i64) (.pair (.int .i64) (.pair (.int .i64) (.pair .bool (.pair .bool (.pair (.int .i64) (.int .i64)))))))))) else bif t.beq 6 then some (.ty (.pair (.int .i64) (.pair (.int .i64) (.pair (.int .i64) (.pair (.int .i64) (.pair (.int .i64) (.pair .bool (.pair .bool (.pair (.int .i64) (.int .i64)))))))))) else bif t.beq 13 then some (.ty (.pair (.int .i64) (.pair (.int .i64) (.pair (.int .i64) (.pair (.int .i64) (.pair (.int .i64) (.pair .bool (.pair .bool (.pair (.int .i64) (.int .i64)))))))))) else none
def a94 (i : Nat) : Option Shape :=
  none
def s94 : Sg := ⟨[(.ty (.int .u32))], [], ⟨[(0, (.ty (.pair (.int .i64) (.pair (.int .i64) (.pair (.int .i64) (.pair (.int .i64) (.pair (.int .i64) (.pair .bool (.pair .bool (.pair (.int .i64) (.int .i64)))))))))))], [], [], []⟩⟩
def f94 (N : Nat) (x : s94.inp) : Option s94.res := fnS N K93 t94 ⟨h94, a94⟩ s94 x
def c94 : Ctr := ⟨s94, f94⟩
theorem gc94 : GoodC TBDe 94 c94 := good2 (T := TBDe) (f := 94) (K := K93) (c := c94) (F := t94) (nt := ⟨h94, a94⟩) noSpDe gk93 (by kernel_rfl) rfl (by kernel_rfl) (by kernel_rfl) rfl (by kernel_rfl) (by intro N x; kernel_rfl)
def K94 : CTab := fun f svs => bif f.beq 94 then some c94 else K93 f svs
theorem gk94 : GoodK TBDe K94 := by
  intro f svs c h
  unfold K94 at h
  cases hf : f.beq 94 with
  | false => rw [hf] at h; exact gk93 f svs c h
  | true =>
    obtain rfl := Nat.eq_of_beq_eq_true hf
    rw [hf, cond_true] at h
    obtain rfl := Option.some.inj h
    exact ⟨gc94, by kernel_rfl⟩
def h95 (t : Nat) : Option Hn :=
  none
def a95 (i : Nat) : Option Shape :=
  bif i.beq 4 then some ⟨[(3, (.ty (.int .i64)))], [], [], []⟩ else bif i.beq 31 then some ⟨[(32, (.ty .bool))], [], [], []⟩ else none
def s95 : Sg := ⟨[(.ty (.pair (.int .u32) (.pair (.int .i64) (.pair (.int .i64) (.pair (.int .i64) (.pair (.int .u32) (.int .u32)))))))], [], ⟨[(0, (.ty (.int .i64)))], [], [], []⟩⟩
def f95 (N : Nat) (x : s95.inp) : Option s95.res := fnS N K94 t95 ⟨h95, a95⟩ s95 x
def c95 : Ctr := ⟨s95, f95⟩
theorem gc95 : GoodC TBDe 95 c95 := good2 (T := TBDe) (f := 95) (K := K94) (c := c95) (F := t95) (nt := ⟨h95, a95⟩) noSpDe gk94 (by kernel_rfl) rfl (by kernel_rfl) (by kernel_rfl) rfl (by kernel_rfl) (by intro N x; kernel_rfl)
def K95 : CTab := fun f svs => bif f.beq 95 then some c95 else K94 f svs
theorem gk95 : GoodK TBDe K95 := by
  intro f svs c h
  unfold K95 at h
  cases hf : f.beq 95 with
  | false => rw [hf] at h; exact gk94 f svs c h
  | true =>
    obtain rfl := Nat.eq_of_beq_eq_true hf
    rw [hf, cond_true] at h
    obtain rfl := Option.some.inj h
    exact ⟨gc95, by kernel_rfl⟩
def h79 (t : Nat) : Option Hn :=
  bif t.beq 2 then some (.ty (.pair (.int .i64) (.pair (.int .i64) (.pair (.int .i64) (.pair (.int .i64) (.pair (.int .i64) (.pair .bool (.pair .bool (.pair (.int .i64) (.int .i64)))))))))) else bif t.beq 3 then some (.ty (.pair (.int .i64) (.pair (.int .i64) (.pair (.int .i64) (.pair (.int .i64) (.pair (.int .i64) (.pair .bool (.pair .bool (.pair (.int .i64) (.int .i64)))))))))) else bif t.beq 4 then some (.ty (.arr 8 (.int .i64))) else bif t.beq 5 then some (.ty (.arr 8 (.int .i64))) else bif t.beq 6 then some (.ty (.arr 8 (.int .i64))) else bif t.beq 7 then some (.ty (.arr 8 (.int .i64))) else bif t.beq 8 then some (.ty (.arr 8 (.int .i64))) else bif t.beq 15 then some (.ty (.pair (.int .i64) (.pair (.int .i64) (.pair (.int .i64) (.pair (.int .i64) (.pair (.int .i64) (.pair .bool (.pair .bool (.pair (.int .i64) (.int .i64)))))))))) else bif t.beq 52 then some (.ty (.arr 8 (.int .i64))) else none
def a79 (i : Nat) : Option Shape :=
  bif i.beq 4 then some ⟨[], [(2, (.one (.ty (.pair (.int .i64) (.pair (.int .i64) (.pair (.int .i64) (.pair (.int .i64) (.pair (.int .i64) (.pair .bool (.pair .bool (.pair (.int .i64) (.int .i64))))))))))))], [], []⟩ else bif i.beq 44 then some ⟨[], [(2, (.one (.ty (.pair (.int .i64) (.pair (.int .i64) (.pair (.int .i64) (.pair (.int .i64) (.pair (.int .i64) (.pair .bool (.pair .bool (.pair (.int .i64) (.int .i64))))))))))))], [], []⟩ else none
def s79 : Sg := ⟨[(.ty (.pair (.int .u32) (.pair (.int .i64) (.pair (.int .i64) (.pair (.int .i64) (.pair (.int .u32) (.int .u32)))))))], [], ⟨[(0, (.ty (.pair (.int .i64) (.pair (.int .i64) (.pair (.int .i64) (.pair (.int .i64) (.pair (.int .i64) (.pair .bool (.pair .bool (.pair (.int .i64) (.int .i64)))))))))))], [], [], []⟩⟩
def f79 (N : Nat) (x : s79.inp) : Option s79.res := fnS N K95 t79 ⟨h79, a79⟩ s79 x
def c79 : Ctr := ⟨s79, f79⟩
theorem gc79 : GoodC TBDe 79 c79 := good2 (T := TBDe) (f := 79) (K := K95) (c := c79) (F := t79) (nt := ⟨h79, a79⟩) noSpDe gk95 (by kernel_rfl) rfl (by kernel_rfl) (by kernel_rfl) rfl (by kernel_rfl) (by intro N x; kernel_rfl)
def K79 : CTab := fun f svs => bif f.beq 79 then some c79 else K95 f svs
theorem gk79 : GoodK TBDe K79 := by
  intro f svs c h
  unfold K79 at h
  cases hf : f.beq 79 with
  | false => rw [hf] at h; exact gk95 f svs c h
  | true =>
    obtain rfl := Nat.eq_of_beq_eq_true hf
    rw [hf, cond_true] at h
    obtain rfl := Option.some.inj h
    exact ⟨gc79, by kernel_rfl⟩
def h57 (t : Nat) : Option Hn :=
  none
def a57 (i : Nat) : Option Shape :=
  bif i.beq 3 then some ⟨[(3, (.ty .bool))], [], [], []⟩ else none
def s57 : Sg := ⟨[(.ty (.int .i64))], [], ⟨[(0, (.ty (.int .i64)))], [], [], []⟩⟩
def f57 (N : Nat) (x : s57.inp) : Option s57.res := fnS N K79 t57 ⟨h57, a57⟩ s57 x
def c57 : Ctr := ⟨s57, f57⟩
theorem gc57 : GoodC TBDe 57 c57 := good2 (T := TBDe) (f := 57) (K := K79) (c := c57) (F := t57) (nt := ⟨h57, a57⟩) noSpDe gk79 (by kernel_rfl) rfl (by kernel_rfl) (by kernel_rfl) rfl (by kernel_rfl) (by intro N x; kernel_rfl)
def K57 : CTab := fun f svs => bif f.beq 57 then some c57 else K79 f svs
theorem gk57 : GoodK TBDe K57 := by
  intro f svs c h
  unfold K57 at h
  cases hf : f.beq 57 with
  | false => rw [hf] at h; exact gk79 f svs c h
  | true =>
    obtain rfl := Nat.eq_of_beq_eq_true hf
    rw [hf, cond_true] at h
    obtain rfl := Option.some.inj h
    exact ⟨gc57, by kernel_rfl⟩
def h61 (t : Nat) : Option Hn :=
  none
def a61 (i : Nat) : Option Shape :=
  bif i.beq 2 then some ⟨[(8, (.ty .bool))], [], [], []⟩ else none
def s61 : Sg := ⟨[(.ty (.int .i64))], [], ⟨[(0, (.ty (.int .i64)))], [], [], []⟩⟩
def f61 (N : Nat) (x : s61.inp) : Option s61.res := fnS N K57 t61 ⟨h61, a61⟩ s61 x
def c61 : Ctr := ⟨s61, f61⟩
theorem gc61 : GoodC TBDe 61 c61 := good2 (T := TBDe) (f := 61) (K := K57) (c := c61) (F := t61) (nt := ⟨h61, a61⟩) noSpDe gk57 (by kernel_rfl) rfl (by kernel_rfl) (by kernel_rfl) rfl (by kernel_rfl) (by intro N x; kernel_rfl)
def K61 : CTab := fun f svs => bif f.beq 61 then some c61 else K57 f svs
theorem gk61 : GoodK TBDe K61 := by
  intro f svs c h
  unfold K61 at h
  cases hf : f.beq 61 with
  | false => rw [hf] at h; exact gk57 f svs c h
  | true =>
    obtain rfl := Nat.eq_of_beq_eq_true hf
    rw [hf, cond_true] at h
    obtain rfl := Option.some.inj h
    exact ⟨gc61, by kernel_rfl⟩
def h40 (t : Nat) : Option Hn :=
  none
def a40 (i : Nat) : Option Shape :=
  bif i.beq 4 then some ⟨[(6, (.ty .bool))], [], [], []⟩ else none
def s40 : Sg := ⟨[(.ty (.pair (.int .i64) (.pair (.int .i64) (.pair (.int .i64) (.pair (.int .i64) (.pair (.int .i64) (.pair .bool (.pair .bool (.pair (.int .i64) (.int .i64))))))))))], [], ⟨[(0, (.ty (.int .i64)))], [], [], []⟩⟩
def f40 (N : Nat) (x : s40.inp) : Option s40.res := fnS N K61 t40 ⟨h40, a40⟩ s40 x
def c40 : Ctr := ⟨s40, f40⟩
theorem gc40 : GoodC TBDe 40 c40 := good2 (T := TBDe) (f := 40) (K := K61) (c := c40) (F := t40) (nt := ⟨h40, a40⟩) noSpDe gk61 (by kernel_rfl) rfl (by kernel_rfl) (by kernel_rfl) rfl (by kernel_rfl) (by intro N x; kernel_rfl)
def K40 : CTab := fun f svs => bif f.beq 40 then some c40 else K61 f svs
theorem gk40 : GoodK TBDe K40 := by
  intro f svs c h
  unfold K40 at h
  cases hf : f.beq 40 with
  | false => rw [hf] at h; exact gk61 f svs c h
  | true =>
    obtain rfl := Nat.eq_of_beq_eq_true hf
    rw [hf, cond_true] at h
    obtain rfl := Option.some.inj h
    exact ⟨gc40, by kernel_rfl⟩
def h38 (t : Nat) : Option Hn :=
  bif t.beq 22 then some (.ty (.int .i64)) else bif t.beq 30 then some (.ty (.int .i64)) else bif t.beq 39 then some (.ty (.int .i64)) else bif t.beq 50 then some (.ty (.int .i64)) else none
def a38 (i : Nat) : Option Shape :=
  bif i.beq 4 then some ⟨[(3, (.sla 1 .yes))], [], [], [⟨true, (.many (.int .i64))⟩]⟩ else bif i.beq 5 then some ⟨[(10, (.ty .bool))], [], [], []⟩ else bif i.beq 15 then some ⟨[(23, (.ty .bool))], [], [], []⟩ else bif i.beq 29 then some ⟨[(4, (.sla 2 .yes)), (42, (.ty (.int .i64)))], [], [], [⟨true, (.many (.int .i64))⟩]⟩ else bif i.beq 34 then some ⟨[(4, (.sla 3 .yes))], [], [2], [⟨true, (.many (.int .i64))⟩]⟩ else none
def s38 : Sg := ⟨[(.ty (.pair (.int .i64) (.pair (.int .i64) (.pair (.int .i64) (.pair (.int .i64) (.pair (.int .i64) (.pair .bool (.pair .bool (.pair (.int .i64) (.int .i64))))))))))], [], ⟨[(0, (.sla 0 .yes))], [], [], [⟨true, (.many (.int .i64))⟩]⟩⟩
def f38 (N : Nat) (x : s38.inp) : Option s38.res := fnS N K40 t38 ⟨h38, a38⟩ s38 x
def c38 : Ctr := ⟨s38, f38⟩
theorem gc38 : GoodC TBDe 38 c38 := good3 (T := TBDe) (f := 38) (K := K40) (c := c38) (F := t38) (nt := ⟨h38, a38⟩) noSpDe gk40 (by kernel_rfl) rfl (by kernel_rfl) (by kernel_rfl) (by intro N x; kernel_rfl)
def K38 : CTab := fun f svs => bif f.beq 38 then some c38 else K40 f svs
theorem gk38 : GoodK TBDe K38 := by
  intro f svs c h
  unfold K38 at h
  cases hf : f.beq 38 with
  | false => rw [hf] at h; exact gk40 f svs c h
  | true =>
    obtain rfl := Nat.eq_of_beq_eq_true hf
    rw [hf, cond_true] at h
    obtain rfl := Option.some.inj h
    exact ⟨gc38, by kernel_rfl⟩
def h54 (t : Nat) : Option Hn :=
  bif t.beq 2 then some (.ty (.pair (.int .i64) (.pair (.int .i64) (.pair (.int .i64) (.pair (.int .i64) (.pair (.int .i64) (.pair .bool (.pair .bool (.pair (.int .i64) (.int .i64)))))))))) else bif t.beq 3 then some (.ty (.pair (.int .i64) (.pair (.int .i64) (.pair (.int .i64) (.pair (.int .i64) (.pair (.int .i64) (.pair .bool (.pair .bool (.pair (.int .i64) (.int .i64)))))))))) else bif t.beq 4 then some (.ty (.arr 4 .bool)) else bif t.beq 9 then some (.ty (.pair (.int .i64) (.pair (.int .i64) (.pair (.int .i64) (.pair (.int .i64) (.pair (.int .i64) (.pair .bool (.pair .bool (.pair (.int .i64) (.int .i64)))))))))) else bif t.beq 14 then some (.ty (.arr 4 .bool)) else none
def a54 (i : Nat) : Option Shape :=
  bif i.beq 2 then some ⟨[], [(0, (.one (.segs [(.ty (.pair (.int .i64) (.pair (.int .i64) (.pair (.int .i64) (.pair (.int .i64) (.pair (.int .i64) (.pair .bool (.pair .bool (.pair (.int .i64) (.int .i64))))))))))])))], [], []⟩ else bif i.beq 9 then some ⟨[(18, (.ty (.int .i64)))], [(3, (.one (.ty (.arr 4 .bool))))], [], []⟩ else bif i.beq 16 then some ⟨[], [(0, (.one (.segs [(.ty (.pair (.int .i64) (.pair (.int .i64) (.pair (.int .i64) (.pair (.int .i64) (.pair (.int .i64) (.pair .bool (.pair .bool (.pair (.int .i64) (.int .i64))))))))))])))], [], []⟩ else bif i.beq 19 then some ⟨[], [(0, (.one (.segs [(.ty (.pair (.int .i64) (.pair (.int .i64) (.pair (.int .i64) (.pair (.int .i64) (.pair (.int .i64) (.pair .bool (.pair .bool (.pair (.int .i64) (.int .i64))))))))))])))], [], []⟩ else none
def s54 : Sg := ⟨[(.ty (.pair (.int .i64) (.pair (.int .i64) (.pair (.int .i64) (.pair (.int .i64) (.pair (.int .i64) (.pair .bool (.pair .bool (.pair (.int .i64) (.int .i64))))))))))], [], ⟨[(0, (.ty (.pair (.int .i64) (.pair (.int .i64) (.pair (.int .i64) (.pair (.int .i64) (.pair (.int .i64) (.pair .bool (.pair .bool (.pair (.int .i64) (.int .i64)))))))))))], [], [], []⟩⟩
def f54 (N : Nat) (x : s54.inp) : Option s54.res := fnS N K38 t54 ⟨h54, a54⟩ s54 x
def c54 : Ctr := ⟨s54, f54⟩
theorem gc54 : GoodC TBDe 54 c54 := good2 (T := TBDe) (f := 54) (K := K38) (c := c54) (F := t54) (nt := ⟨h54, a54⟩) noSpDe gk38 (by kernel_rfl) rfl (by kernel_rfl) (by kernel_rfl) rfl (by kernel_rfl) (by intro N x; kernel_rfl)
def K54 : CTab := fun f svs => bif f.beq 54 then some c54 else K38 f svs
theorem gk54 : GoodK TBDe K54 := by
  intro f svs c h
  unfold K54 at h
  cases hf : f.beq 54 with
  | false => rw [hf] at h; exact gk38 f svs c h
  | true =>
    obtain rfl := Nat.eq_of_beq_eq_true hf
    rw [hf, cond_true] at h
    obtain rfl := Option.some.inj h
    exact ⟨gc54, by kernel_rfl⟩
def h55 (t : Nat) : Option Hn :=
  bif t.beq 2 then some (.ty (.pair (.int .i64) (.pair (.int .i64) (.pair (.int .i64) (.pair (.int .i64) (.pair (.int .i64) (.pair .bool (.pair .bool (.pair (.int .i64) (.int .i64)))))))))) else bif t.beq 4 then some (.ty (.pair (.int .i64) (.pair (.int .i64) (.pair (.int .i64) (.pair (.int .i64) (.pair (.int .i64) (.pair .bool (.pair .bool (.pair (.int .i64) (.int .i64)))))))))) else bif t.beq 11 then some (.ty (.pair (.int .i64) (.pair (.int .i64) (.pair (.int .i64) (.pair (.int .i64) (.pair (.int .i64) (.pair .bool (.pair .bool (.pair (.int .i64) (.int .i64)))))))))) else none
def a55 (i : Nat) : Option Shape :=
  none
def s55 : Sg := ⟨[(.ty (.int .u32))], [], ⟨[(0, (.tup [(.ty (.pair (.int .i64) (.pair (.int .i64) (.pair (.int .i64) (.pair (.int .i64) (.pair (.int .i64) (.pair .bool (.pair .bool (.pair (.int .i64) (.int .i64)))))))))), (.ty (.int .i64))]))], [], [], []⟩⟩
def f55 (N : Nat) (x : s55.inp) : Option s55.res := fnS N K54 t55 ⟨h55, a55⟩ s55 x
def c55 : Ctr := ⟨s55, f55⟩
theorem gc55 : GoodC TBDe 55 c55 := good2 (T := TBDe) (f := 55) (K := K54) (c := c55) (F := t55) (nt := ⟨h55, a55⟩) noSpDe gk54 (by kernel_rfl) rfl (by kernel_rfl) (by kernel_rfl) rfl (by kernel_rfl) (by intro N x; kernel_rfl)
def K55 : CTab := fun f svs => bif f.beq 55 then some c55 else K54 f svs
theorem gk55 : GoodK TBDe K55 := by
  intro f svs c h
  unfold K55 at h
  cases hf : f.beq 55 with
  | false => rw [hf] at h; exact gk54 f svs c h
  | true =>
    obtain rfl := Nat.eq_of_beq_eq_true hf
    rw [hf, cond_true] at h
    obtain rfl := Option.some.inj h
    exact ⟨gc55, by kernel_rfl⟩
def h49 (t : Nat) : Option Hn :=
  none
def a49 (i : Nat) : Option Shape :=
  none
def s49 : Sg := ⟨[(.ty (.int .i64))], [], ⟨[(0, (.ty (.int .u32)))], [], [], []⟩⟩
def f49 (N : Nat) (x : s49.inp) : Option s49.res := fnS N K55 t49 ⟨h49, a49⟩ s49 x
def c49 : Ctr := ⟨s49, f49⟩
theorem gc49 : GoodC TBDe 49 c49 := good2 (T := TBDe) (f := 49) (K := K55) (c := c49) (F := t49) (nt := ⟨h49, a49⟩) noSpDe gk55 (by kernel_rfl) rfl (by kernel_rfl) (by kernel_rfl) rfl (by kernel_rfl) (by intro N x; kernel_rfl)
def K49 : CTab := fun f svs => bif f.beq 49 then some c49 else K55 f svs
theorem gk49 : GoodK TBDe K49 := by
  intro f svs c h
  unfold K49 at h
  cases hf : f.beq 49 with
  | false => rw [hf] at h; exact gk55 f svs c h
  | true =>
    obtain rfl := Nat.eq_of_beq_eq_true hf
    rw [hf, cond_true] at h
    obtain rfl := Option.some.inj h
    exact ⟨gc49, by kernel_rfl⟩
def h46 (t : Nat) : Option Hn :=
  bif t.beq 1 then some (.ty (.pair (.int .i64) (.pair (.int .i64) (.pair (.int .i64) (.pair (.int .i64) (.pair (.int .i64) (.pair .bool (.pair .bool (.pair (.int .i64) (.int .i64)))))))))) else bif t.beq 3 then some (.ty (.pair (.int .i64) (.pair (.int .i64) (.pair (.int .i64) (.pair (.int .i64) (.pair (.int .i64) (.pair .bool (.pair .bool (.pair (.int .i64) (.int .i64)))))))))) else bif t.beq 21 then some (.ty (.pair (.int .i64) (.pair (.int .i64) (.pair (.int .i64) (.pair (.int .i64) (.pair (.int .i64) (.pair .bool (.pair .bool (.pair (.int .i64) (.int .i64)))))))))) else none
def a46 (i : Nat) : Option Shape :=
  bif i.beq 3 then some ⟨[(0, (.ty .bool))], [], [], []⟩ else none
def s46 : Sg := ⟨[], [], ⟨[(0, (.ty .bool))], [], [], []⟩⟩
def f46 (N : Nat) (x : s46.inp) : Option s46.res := fnS N K49 t46 ⟨h46, a46⟩ s46 x
def c46 : Ctr := ⟨s46, f46⟩
theorem gc46 : GoodC TBDe 46 c46 := good2 (T := TBDe) (f := 46) (K := K49) (c := c46) (F := t46) (nt := ⟨h46, a46⟩) noSpDe gk49 (by kernel_rfl) rfl (by kernel_rfl) (by kernel_rfl) rfl (by kernel_rfl) (by intro N x; kernel_rfl)
def K46 : CTab := fun f svs => bif f.beq 46 then some c46 else K49 f svs
theorem gk46 : GoodK TBDe K46 := by
  intro f svs c h
  unfold K46 at h
  cases hf : f.beq 46 with
  | false => rw [hf] at h; exact gk49 f svs c h
  | true =>
    obtain rfl := Nat.eq_of_beq_eq_true hf
    rw [hf, cond_true] at h
    obtain rfl := Option.some.inj h
    exact ⟨gc46, by kernel_rfl⟩
def h63 (t : Nat) : Option Hn :=
  bif t.beq 5 then some (.ty (.int .i64)) else none
def a63 (i : Nat) : Option Shape :=
  bif i.beq 9 then some ⟨[(0, (.ty (.int .i64))), (4, (.ty (.int .i64)))], [], [], []⟩ else none
def s63 : Sg := ⟨[(.ty (.int .i64))], [], ⟨[(0, (.ty (.int .i64)))], [], [], []⟩⟩
def f63 (N : Nat) (x : s63.inp) : Option s63.res := fnS N K46 t63 ⟨h63, a63⟩ s63 x
def c63 : Ctr := ⟨s63, f63⟩
theorem gc63 : GoodC TBDe 63 c63 := good2 (T := TBDe) (f := 63) (K := K46) (c := c63) (F := t63) (nt := ⟨h63, a63⟩) noSpDe gk46 (by kernel_rfl) rfl (by kernel_rfl) (by kernel_rfl) rfl (by kernel_rfl) (by intro N x; kernel_rfl)
def K63 : CTab := fun f svs => bif f.beq 63 then some c63 else K46 f svs
theorem gk63 : GoodK TBDe K63 := by
  intro f svs c h
  unfold K63 at h
  cases hf : f.beq 63 with
  | false => rw [hf] at h; exact gk46 f svs c h
  | true =>
    obtain rfl := Nat.eq_of_beq_eq_true hf
    rw [hf, cond_true] at h
    obtain rfl := Option.some.inj h
    exact ⟨gc63, by kernel_rfl⟩
def h25 (t : Nat) : Option Hn :=
  bif t.beq 1 then some (.ty .str) else none
def a25 (i : Nat) : Option Shape :=
  none
def s25 : Sg := ⟨[], [], ⟨[(0, (.sla 0 .yes))], [], [], [⟨true, (.many .str)⟩]⟩⟩
def f25 (N : Nat) (x : s25.inp) : Option s25.res := fnS N K63 t25 ⟨h25, a25⟩ s25 x
def c25 : Ctr := ⟨s25, f25⟩
theorem gc25 : GoodC TBDe 25 c25 := good3 (T := TBDe) (f := 25) (K := K63) (c := c25) (F := t25) (nt := ⟨h25, a25⟩) noSpDe gk63 (by kernel_rfl) rfl (by kernel_rfl) (by kernel_rfl) (by intro N x; kernel_rfl)
def K25 : CTab := fun f svs => bif f.beq 25 then some c25 else K63 f svs
theorem gk25 : GoodK TBDe K25 := by
  intro f svs c h
  unfold K25 at h
  cases hf : f.beq 25 with
  | false => rw [hf] at h; exact gk63 f svs c h
  | true =>
    obtain rfl := Nat.eq_of_beq_eq_true hf
    rw [hf, cond_true] at h
    obtain rfl := Option.some.inj h
    exact ⟨gc25, by kernel_rfl⟩
def h68 (t : Nat) : Option Hn :=
  none
def a68 (i : Nat) : Option Shape :=
  bif i.beq 3 then some ⟨[(12, (.ty .bool))], [], [], []⟩ else none
def s68 : Sg := ⟨[(.ty (.int .i64))], [], ⟨[(0, (.ty .str))], [], [], []⟩⟩
def f68 (N : Nat) (x : s68.inp) : Option s68.res := fnS N K25 t68 ⟨h68, a68⟩ s68 x
def c68 : Ctr := ⟨s68, f68⟩
theorem gc68 : GoodC TBDe 68 c68 := good2 (T := TBDe) (f := 68) (K := K25) (c := c68) (F := t68) (nt := ⟨h68, a68⟩) noSpDe gk25 (by kernel_rfl) rfl (by kernel_rfl) (by kernel_rfl) rfl (by kernel_rfl) (by intro N x; kernel_rfl)
def K68 : CTab := fun f svs => bif f.beq 68 then some c68 else K25 f svs
theorem gk68 : GoodK TBDe K68 := by
  intro f svs c h
  unfold K68 at h
  cases hf : f.beq 68 with
  | false => rw [hf] at h; exact gk25 f svs c h
  | true =>
    obtain rfl := Nat.eq_of_beq_eq_true hf
    rw [hf, cond_true] at h
    obtain rfl := Option.some.inj h
    exact ⟨gc68, by kernel_rfl⟩
def h48 (t : Nat) : Option Hn :=
  none
def a48 (i : Nat) : Option Shape :=
  bif i.beq 31 then some ⟨[(39, (.ty .bool))], [], [], []⟩ else bif i.beq 37 then some ⟨[(48, (.ty .bool))], [], [], []⟩ else none
def s48 : Sg := ⟨[(.ty (.int .i64))], [], ⟨[(0, (.ty (.int .u32)))], [], [], []⟩⟩
def f48 (N : Nat) (x : s48.inp) : Option s48.res := fnS N K68 t48 ⟨h48, a48⟩ s48 x
def c48 : Ctr := ⟨s48, f48⟩
theorem gc48 : GoodC TBDe 48 c48 := good2 (T := TBDe) (f := 48) (K := K68) (c := c48) (F := t48) (nt := ⟨h48, a48⟩) noSpDe gk68 (by kernel_rfl) rfl (by kernel_rfl) (by kernel_rfl) rfl (by kernel_rfl) (by intro N x; kernel_rfl)
def K48 : CTab := fun f svs => bif f.beq 48 then some c48 else K68 f svs
theorem gk48 : GoodK TBDe K48 := by
  intro f svs c h
  unfold K48 at h
  cases hf : f.beq 48 with
  | false => rw [hf] at h; exact gk68 f svs c h
  | true =>
    obtain rfl := Nat.eq_of_beq_eq_true hf
    rw [hf, cond_true] at h
    obtain rfl := Option.some.inj h
    exact ⟨gc48, by kernel_rfl⟩
def h50 (t : Nat) : Option Hn :=
  bif t.beq 12 then some (.ty (.int .u32)) else none
def a50 (i : Nat) : Option Shape :=
  bif i.beq 15 then some ⟨[(27, (.ty .bool))], [], [], []⟩ else bif i.beq 27 then some ⟨[(42, (.ty .bool))], [], [], []⟩ else bif i.beq 33 then some ⟨[(44, (.ty .bool))], [], [], []⟩ else bif i.beq 42 then some ⟨[(49, (.ty .bool))], [], [], []⟩ else bif i.beq 47 then some ⟨[(52, (.ty .bool))], [], [], []⟩ else bif i.beq 52 then some ⟨[(55, (.ty .bool))], [], [], []⟩ else bif i.beq 57 then some ⟨[(58, (.ty .bool))], [], [], []⟩ else bif i.beq 74 then some ⟨[(67, (.ty .bool))], [], [], []⟩ else bif i.beq 79 then some ⟨[(70, (.ty .bool))], [], [], []⟩ else none
def s50 : Sg := ⟨[(.ty (.int .i64))], [], ⟨[(0, (.ty (.int .u32)))], [], [], []⟩⟩
def f50 (N : Nat) (x : s50.inp) : Option s50.res := fnS N K48 t50 ⟨h50, a50⟩ s50 x
def c50 : Ctr := ⟨s50, f50⟩
theorem gc50 : GoodC TBDe 50 c50 := good2 (T := TBDe) (f := 50) (K := K48) (c := c50) (F := t50) (nt := ⟨h50, a50⟩) noSpDe gk48 (by kernel_rfl) rfl (by kernel_rfl) (by kernel_rfl) rfl (by kernel_rfl) (by intro N x; kernel_rfl)
def K50 : CTab := fun f svs => bif f.beq 50 then some c50 else K48 f svs
theorem gk50 : GoodK TBDe K50 := by
  intro f svs c h
  unfold K50 at h
  cases hf : f.beq 50 with
  | false => rw [hf] at h; exact gk48 f svs c h
  | true =>
    obtain rfl := Nat.eq_of_beq_eq_true hf
    rw [hf, cond_true] at h
    obtain rfl := Option.some.inj h
    exact ⟨gc50, by kernel_rfl⟩
def h99 (t : Nat) : Option Hn :=
  none
def a99 (i : Nat) : Option Shape :=
  bif i.beq 2 then some ⟨[(2, (.ty .bool))], [], [], []⟩ else none
def s99 : Sg := ⟨[(.ty (.int .i64))], [], ⟨[(0, (.ty .bool))], [], [], []⟩⟩
def f99 (N : Nat) (x : s99.inp) : Option s99.res := fnS N K50 t99 ⟨h99, a99⟩ s99 x
def c99 : Ctr := ⟨s99, f99⟩
theorem gc99 : GoodC TBDe 99 c99 := good2 (T := TBDe) (f := 99) (K := K50) (c := c99) (F := t99) (nt := ⟨h99, a99⟩) noSpDe gk50 (by kernel_rfl) rfl (by kernel_rfl) (by kernel_rfl) rfl (by kernel_rfl) (by intro N x; kernel_rfl)
def K99 : CTab := fun f svs => bif f.beq 99 then some c99 else K50 f svs
theorem gk99 : GoodK TBDe K99 := by
  intro f svs c h
  unfold K99 at h
  cases hf : f.beq 99 with
  | false => rw [hf] at h; exact gk50 f svs c h
  | true =>
    obtain rfl := Nat.eq_of_beq_eq_true hf
    rw [hf, cond_true] at h
    obtain rfl := Option.some.inj h
    exact ⟨gc99, by kernel_rfl⟩
def h87 (t : Nat) : Option Hn :=
  none
def a87 (i : Nat) : Option Shape :=
  bif i.beq 3 then some ⟨[(15, (.ty .bool))], [], [], []⟩ else bif i.beq 7 then some ⟨[(25, (.ty .bool))], [], [], []⟩ else none
def s87 : Sg := ⟨[(.ty (.int .i64))], [], ⟨[(0, (.ty (.int .i64)))], [], [], []⟩⟩
def f87 (N : Nat) (x : s87.inp) : Option s87.res := fnS N K99 t87 ⟨h87, a87⟩ s87 x
def c87 : Ctr := ⟨s87, f87⟩
theorem gc87 : GoodC TBDe 87 c87 := good2 (T := TBDe) (f := 87) (K := K99) (c := c87) (F := t87) (nt := ⟨h87, a87⟩) noSpDe gk99 (by kernel_rfl) rfl (by kernel_rfl) (by kernel_rfl) rfl (by kernel_rfl) (by intro N x; kernel_rfl)
def K87 : CTab := fun f svs => bif f.beq 87 then some c87 else K99 f svs
theorem gk87 : GoodK TBDe K87 := by
  intro f svs c h
  unfold K87 at h
  cases hf : f.beq 87 with
  | false => rw [hf] at h; exact gk99 f svs c h
  | true =>
    obtain rfl := Nat.eq_of_beq_eq_true hf
    rw [hf, cond_true] at h
    obtain rfl := Option.some.inj h
    exact ⟨gc87, by kernel_rfl⟩
def h100 (t : Nat) : Option Hn :=
  bif t.beq 15 then some (.ty (.int .u32)) else none
def a100 (i : Nat) : Option Shape :=
  bif i.beq 2 then some ⟨[(8, (.ty .bool))], [], [], []⟩ else bif i.beq 6 then some ⟨[(14, (.ty .bool))], [], [], []⟩ else none
def s100 : Sg := ⟨[(.ty (.int .i64))], [], ⟨[(0, (.ty (.int .u32)))], [], [], []⟩⟩
def f100 (N : Nat) (x : s100.inp) : Option s100.res := fnS N K87 t100 ⟨h100, a100⟩ s100 x
def c100 : Ctr := ⟨s100, f100⟩
theorem gc100 : GoodC TBDe 100 c100 := good2 (T := TBDe) (f := 100) (K := K87) (c := c100) (F := t100) (nt := ⟨h100, a100⟩) noSpDe gk87 (by kernel_rfl) rfl (by kernel_rfl) (by kernel_rfl) rfl (by kernel_rfl) (by intro N x; kernel_rfl)
def K100 : CTab := fun f svs => bif f.beq 100 then some c100 else K87 f svs
theorem gk100 : GoodK TBDe K100 := by
  intro f svs c h
  unfold K100 at h
  cases hf : f.beq 100 with
  | false => rw [hf] at h; exact gk87 f svs c h
  | true =>
    obtain rfl := Nat.eq_of_beq_eq_true hf
    rw [hf, cond_true] at h
    obtain rfl := Option.some.inj h
    exact ⟨gc100, by kernel_rfl⟩
def h84 (t : Nat) : Option Hn :=
  none
def a84 (i : Nat) : Option Shape :=
  bif i.beq 9 then some ⟨[(25, (.ty .bool))], [], [], []⟩ else bif i.beq 14 then some ⟨[(4, (.ty .bool))], [], [], []⟩ else bif i.beq 17 then some ⟨[(4, (.ty .bool))], [], [], []⟩ else bif i.beq 23 then some ⟨[(9, (.ty (.int .u32)))], [], [], []⟩ else bif i.beq 28 then some ⟨[(68, (.ty .bool))], [], [], []⟩ else bif i.beq 36 then some ⟨[(4, (.ty .bool))], [], [], []⟩ else none
def s84 : Sg := ⟨[(.ty (.int .u32)), (.ty (.int .i64))], [], ⟨[(0, (.ty .bool))], [], [], []⟩⟩
def f84 (N : Nat) (x : s84.inp) : Option s84.res := fnS N K100 t84 ⟨h84, a84⟩ s84 x
def c84 : Ctr := ⟨s84, f84⟩
theorem gc84 : GoodC TBDe 84 c84 := good2 (T := TBDe) (f := 84) (K := K100) (c := c84) (F := t84) (nt := ⟨h84, a84⟩) noSpDe gk100 (by kernel_rfl) rfl (by kernel_rfl) (by kernel_rfl) rfl (by kernel_rfl) (by intro N x; kernel_rfl)
def K84 : CTab := fun f svs => bif f.beq 84 then some c84 else K100 f svs
theorem gk84 : GoodK TBDe K84 := by
  intro f svs c h
  unfold K84 at h
  cases hf : f.beq 84 with
  | false => rw [hf] at h; exact gk100 f svs c h
  | true =>
    obtain rfl := Nat.eq_of_beq_eq_true hf
    rw [hf, cond_true] at h
    obtain rfl := Option.some.inj h
    exact ⟨gc84, by kernel_rfl⟩
def h51 (t : Nat) : Option Hn :=
  none
def a51 (i : Nat) : Option Shape :=
  bif i.beq 2 then some ⟨[(2, (.ty .bool))], [], [], []⟩ else none
def s51 : Sg := ⟨[(.ty (.int .i64))], [], ⟨[(0, (.ty .bool))], [], [], []⟩⟩
def f51 (N : Nat) (x : s51.inp) : Option s51.res := fnS N K84 t51 ⟨h51, a51⟩ s51 x
def c51 : Ctr := ⟨s51, f51⟩
theorem gc51 : GoodC TBDe 51 c51 := good2 (T := TBDe) (f := 51) (K := K84) (c := c51) (F := t51) (nt := ⟨h51, a51⟩) noSpDe gk84 (by kernel_rfl) rfl (by kernel_rfl) (by kernel_rfl) rfl (by kernel_rfl) (by intro N x; kernel_rfl)
def K51 : CTab := fun f svs => bif f.beq 51 then some c51 else K84 f svs
theorem gk51 : GoodK TBDe K51 := by
  intro f svs c h
  unfold K51 at h
  cases hf : f.beq 51 with
  | false => rw [hf] at h; exact gk84 f svs c h
  | true =>
    obtain rfl := Nat.eq_of_beq_eq_true hf
    rw [hf, cond_true] at h
    obtain rfl := Option.some.inj h
    exact ⟨gc51, by kernel_rfl⟩
def h52 (t : Nat) : Option Hn :=
  none
def a52 (i : Nat) : Option Shape :=
  bif i.beq 2 then some ⟨[(2, (.ty .bool))], [], [], []⟩ else none
def s52 : Sg := ⟨[(.ty (.int .i64))], [], ⟨[(0, (.ty .bool))], [], [], []⟩⟩
def f52 (N : Nat) (x : s52.inp) : Option s52.res := fnS N K51 t52 ⟨h52, a52⟩ s52 x
def c52 : Ctr := ⟨s52, f52⟩
theorem gc52 : GoodC TBDe 52 c52 := good2 (T := TBDe) (f := 52) (K := K51) (c := c52) (F := t52) (nt := ⟨h52, a52⟩) noSpDe gk51 (by kernel_rfl) rfl (by kernel_rfl) (by kernel_rfl) rfl (by kernel_rfl) (by intro N x; kernel_rfl)
def K52 : CTab := fun f svs => bif f.beq 52 then some c52 else K51 f svs
theorem gk52 : GoodK TBDe K52 := by
  intro f svs c h
  unfold K52 at h
  cases hf : f.beq 52 with
  | false => rw [hf] at h; exact gk51 f svs c h
  | true =>
    obtain rfl := Nat.eq_of_beq_eq_true hf
    rw [hf, cond_true] at h
    obtain rfl := Option.some.inj h
    exact ⟨gc52, by kernel_rfl⟩
def h53 (t : Nat) : Option Hn :=
  none
def a53 (i : Nat) : Option Shape :=
  bif i.beq 2 then some ⟨[(2, (.ty .bool))], [], [], []⟩ else none
def s53 : Sg := ⟨[(.ty (.int .i64))], [], ⟨[(0, (.ty .bool))], [], [], []⟩⟩
def f53 (N : Nat) (x : s53.inp) : Option s53.res := fnS N K52 t53 ⟨h53, a53⟩ s53 x
def c53 : Ctr := ⟨s53, f53⟩
theorem gc53 : GoodC TBDe 53 c53 := good2 (T := TBDe) (f := 53) (K := K52) (c := c53) (F := t53) (nt := ⟨h53, a53⟩) noSpDe gk52 (by kernel_rfl) rfl (by kernel_rfl) (by kernel_rfl) rfl (by kernel_rfl) (by intro N x; kernel_rfl)
def K53 : CTab := fun f svs => bif f.beq 53 then some c53 else K52 f svs
theorem gk53 : GoodK TBDe K53 := by
  intro f svs c h
  unfold K53 at h
  cases hf : f.beq 53 with
  | false => rw [hf] at h; exact gk52 f svs c h
  | true =>
    obtain rfl := Nat.eq_of_beq_eq_true hf
    rw [hf, cond_true] at h
    obtain rfl := Option.some.inj h
    exact ⟨gc53, by kernel_rfl⟩
def h85 (t : Nat) : Option Hn :=
  none
def a85 (i : Nat) : Option Shape :=
  bif i.beq 21 then some ⟨[(16, (.ty .bool))], [], [], []⟩ else none
def s85 : Sg := ⟨[(.ty (.int .i64))], [], ⟨[(0, (.ty (.int .i64)))], [], [], []⟩⟩
def f85 (N : Nat) (x : s85.inp) : Option s85.res := fnS N K53 t85 ⟨h85, a85⟩ s85 x
def c85 : Ctr := ⟨s85, f85⟩
theorem gc85 : GoodC TBDe 85 c85 := good2 (T := TBDe) (f := 85) (K := K53) (c := c85) (F := t85) (nt := ⟨h85, a85⟩) noSpDe gk53 (by kernel_rfl) rfl (by kernel_rfl) (by kernel_rfl) rfl (by kernel_rfl) (by intro N x; kernel_rfl)
def K85 : CTab := fun f svs => bif f.beq 85 then some c85 else K53 f svs
theorem gk85 : GoodK TBDe K85 := by
  intro f svs c h
  unfold K85 at h
  cases hf : f.beq 85 with
  | false => rw [hf] at h; exact gk53 f svs c h
  | true =>
    obtain rfl := Nat.eq_of_beq_eq_true hf
    rw [hf, cond_true] at h
    obtain rfl := Option.some.inj h
    exact ⟨gc85, by kernel_rfl⟩
def h101 (t : Nat) : Option Hn :=
  bif t.beq 2 then some (.ty (.arr 32 (.int .i64))) else bif t.beq 3 then some (.ty (.arr 32 (.int .i64))) else none
def a101 (i : Nat) : Option Shape :=
  bif i.beq 5 then some ⟨[(4, (.ty (.int .i64)))], [(1, (.one (.ty (.arr 32 (.int .i64)))))], [], []⟩ else bif i.beq 14 then some ⟨[(5, (.ty (.int .i64)))], [], [], []⟩ else bif i.beq 21 then some ⟨[(5, (.ty (.int .i64)))], [], [], []⟩ else bif i.beq 24 then some ⟨[(28, (.ty .bool))], [], [], []⟩ else bif i.beq 28 then some ⟨[(5, (.ty (.int .i64)))], [], [], []⟩ else bif i.beq 31 then some ⟨[(5, (.ty (.int .i64)))], [], [], []⟩ else bif i.beq 34 then some ⟨[(5, (.ty (.int .i64)))], [], [], []⟩ else bif i.beq 35 then some ⟨[(42, (.ty .bool))], [], [], []⟩ else bif i.beq 37 then some ⟨[(50, (.ty .bool))], [], [], []⟩ else bif i.beq 45 then some ⟨[(5, (.ty (.int .i64)))], [], [], []⟩ else bif i.beq 48 then some ⟨[(5, (.ty (.int .i64)))], [], [], []⟩ else bif i.beq 49 then some ⟨[(67, (.ty .bool))], [], [], []⟩ else bif i.beq 51 then some ⟨[(5, (.ty (.int .i64)))], [], [], []⟩ else bif i.beq 54 then some ⟨[(76, (.ty .bool))], [], [], []⟩ else none
def s101 : Sg := ⟨[(.ty (.int .i64))], [], ⟨[(0, (.ty (.arr 32 (.int .i64))))], [], [], []⟩⟩
def f101 (N : Nat) (x : s101.inp) : Option s101.res := fnS N K85 t101 ⟨h101, a101⟩ s101 x
def c101 : Ctr := ⟨s101, f101⟩
theorem gc101 : GoodC TBDe 101 c101 := good2 (T := TBDe) (f := 101) (K := K85) (c := c101) (F := t101) (nt := ⟨h101, a101⟩) noSpDe gk85 (by kernel_rfl) rfl (by kernel_rfl) (by kernel_rfl) rfl (by kernel_rfl) (by intro N x; kernel_rfl)
def K101 : CTab := fun f svs => bif f.beq 101 then some c101 else K85 f svs
theorem gk101 : GoodK TBDe K101 := by
  intro f svs c h
  unfold K101 at h
  cases hf : f.beq 101 with
  | false => rw [hf] at h; exact gk85 f svs c h
  | true =>
    obtain rfl := Nat.eq_of_beq_eq_true hf
    rw [hf, cond_true] at h
    obtain rfl := Option.some.inj h
    exact ⟨gc101, by kernel_rfl⟩
def h86 (t : Nat) : Option Hn :=
  bif t.beq 5 then some (.ty (.arr 32 (.int .i64))) else none
def a86 (i : Nat) : Option Shape :=
  bif i.beq 6 then some ⟨[(6, (.ty (.int .i64))), (7, (.ty (.int .i64)))], [], [], []⟩ else bif i.beq 11 then some ⟨[(6, (.ty (.int .i64)))], [], [], []⟩ else bif i.beq 13 then some ⟨[(25, (.ty .bool))], [], [], []⟩ else none
def s86 : Sg := ⟨[(.ty (.int .i64)), (.ty (.int .u32))], [], ⟨[(0, (.ty (.int .i64)))], [], [], []⟩⟩
def f86 (N : Nat) (x : s86.inp) : Option s86.res := fnS N K101 t86 ⟨h86, a86⟩ s86 x
def c86 : Ctr := ⟨s86, f86⟩
theorem gc86 : GoodC TBDe 86 c86 := good2 (T := TBDe) (f := 86) (K := K101) (c := c86) (F := t86) (nt := ⟨h86, a86⟩) noSpDe gk101 (by kernel_rfl) rfl (by kernel_rfl) (by kernel_rfl) rfl (by kernel_rfl) (by intro N x; kernel_rfl)
def K86 : CTab := fun f svs => bif f.beq 86 then some c86 else K101 f svs
theorem gk86 : GoodK TBDe K86 := by
  intro f svs c h
  unfold K86 at h
  cases hf : f.beq 86 with
  | false => rw [hf] at h; exact gk101 f svs c h
  | true =>
    obtain rfl := Nat.eq_of_beq_eq_true hf
    rw [hf, cond_true] at h
    obtain rfl := Option.some.inj h
    exact ⟨gc86, by kernel_rfl⟩
def h78 (t : Nat) : Option Hn :=
  bif t.beq 2 then some (.ty (.pair (.int .i64) (.pair (.int .i64) (.pair (.int .i64) (.pair (.int .i64) (.pair (.int .i64) (.pair .bool (.pair .bool (.pair (.int .i64) (.int .i64)))))))))) else bif t.beq 5 then some (.ty (.pair (.int .i64) (.pair (.int .i64) (.pair (.int .i64) (.pair (.int .i64) (.pair (.int .i64) (.pair .bool (.pair .bool (.pair (.int .i64) (.int .i64)))))))))) else bif t.beq 15 then some (.ty (.pair (.int .i64) (.pair (.int .i64) (.pair (.int .i64) (.pair (.int .i64) (.pair (.int .i64) (.pair .bool (.pair .bool (.pair (.int .i64) (.int .i64)))))))))) else bif t.beq 91 then some (.ty (.pair (.int .i64) (.pair (.int .i64) (.pair (.int .i64) (.pair (.int .i64) (.pair (.int .i64) (.pair .bool (.pair .bool (.pair (.int .i64) (.int .i64)))))))))) else none
def a78 (i : Nat) : Option Shape :=
  bif i.beq 4 then some ⟨[(4, (.ty (.int .i64)))], [], [], []⟩ else bif i.beq 14 then some ⟨[], [(1, (.one (.ty (.pair (.int .i64) (.pair (.int .i64) (.pair (.int .i64) (.pair (.int .i64) (.pair (.int .i64) (.pair .bool (.pair .bool (.pair (.int .i64) (.int .i64))))))))))))], [], []⟩ else bif i.beq 17 then some ⟨[], [(1, (.one (.ty (.pair (.int .i64) (.pair (.int .i64) (.pair (.int .i64) (.pair (.int .i64) (.pair (.int .i64) (.pair .bool (.pair .bool (.pair (.int .i64) (.int .i64))))))))))))], [], []⟩ else bif i.beq 20 then some ⟨[], [(1, (.one (.ty (.pair (.int .i64) (.pair (.int .i64) (.pair (.int .i64) (.pair (.int .i64) (.pair (.int .i64) (.pair .bool (.pair .bool (.pair (.int .i64) (.int .i64))))))))))))], [], []⟩ else bif i.beq 23 then some ⟨[], [(1, (.one (.ty (.pair (.int .i64) (.pair (.int .i64) (.pair (.int .i64) (.pair (.int .i64) (.pair (.int .i64) (.pair .bool (.pair .bool (.pair (.int .i64) (.int .i64))))))))))))], [], []⟩ else bif i.beq 26 then some ⟨[], [(1, (.one (.ty (.pair (.int .i64) (.pair (.int .i64) (.pair (.int .i64) (.pair (.int .i64) (.pair (.int .i64) (.pair .bool (.pair .bool (.pair (.int .i64) (.int .i64))))))))))))], [], []⟩ else bif i.beq 29 then some ⟨[], [(1, (.one (.ty (.pair (.int .i64) (.pair (.int .i64) (.pair (.int .i64) (.pair (.int .i64) (.pair (.int .i64) (.pair .bool (.pair .bool (.pair (.int .i64) (.int .i64))))))))))))], [], []⟩ else bif i.beq 32 then some ⟨[], [(1, (.one (.ty (.pair (.int .i64) (.pair (.int .i64) (.pair (.int .i64) (.pair (.int .i64) (.pair (.int .i64) (.pair .bool (.pair .bool (.pair (.int .i64) (.int .i64))))))))))))], [], []⟩ else bif i.beq 36 then some ⟨[], [(1, (.one (.ty (.pair (.int .i64) (.pair (.int .i64) (.pair (.int .i64) (.pair (.int .i64) (.pair (.int .i64) (.pair .bool (.pair .bool (.pair (.int .i64) (.int .i64))))))))))))], [], []⟩ else bif i.beq 40 then some ⟨[], [(1, (.one (.ty (.pair (.int .i64) (.pair (.int .i64) (.pair (.int .i64) (.pair (.int .i64) (.pair (.int .i64) (.pair .bool (.pair .bool (.pair (.int .i64) (.int .i64))))))))))))], [], []⟩ else none
def s78 : Sg := ⟨[(.ty (.int .u32))], [], ⟨[(0, (.tup [(.ty (.pair (.int .i64) (.pair (.int .i64) (.pair (.int .i64) (.pair (.int .i64) (.pair (.int .i64) (.pair .bool (.pair .bool (.pair (.int .i64) (.int .i64)))))))))), (.ty .bool)]))], [], [], []⟩⟩
def f78 (N : Nat) (x : s78.inp) : Option s78.res := fnS N K86 t78 ⟨h78, a78⟩ s78 x
def c78 : Ctr := ⟨s78, f78⟩
theorem gc78 : GoodC TBDe 78 c78 := good2 (T := TBDe) (f := 78) (K := K86) (c := c78) (F := t78) (nt := ⟨h78, a78⟩) noSpDe gk86 (by kernel_rfl) rfl (by kernel_rfl) (by kernel_rfl) rfl (by kernel_rfl) (by intro N x; kernel_rfl)
def K78 : CTab := fun f svs => bif f.beq 78 then some c78 else K86 f svs
theorem gk78 : GoodK TBDe K78 := by
  intro f svs c h
  unfold K78 at h
  cases hf : f.beq 78 with
  | false => rw [hf] at h; exact gk86 f svs c h
  | true =>
    obtain rfl := Nat.eq_of_beq_eq_true hf
    rw [hf, cond_true] at h
    obtain rfl := Option.some.inj h
    exact ⟨gc78, by kernel_rfl⟩
def h47 (t : Nat) : Option Hn :=
  bif t.beq 3 then some (.ty (.pair (.int .i64) (.pair (.int .i64) (.pair (.int .i64) (.pair (.int .i64) (.pair (.int .i64) (.pair .bool (.pair .bool (.pair (.int .i64) (.int .i64)))))))))) else bif t.beq 5 then some (.ty (.pair (.int .i64) (.pair (.int .i64) (.pair (.int .i64) (.pair (.int .i64) (.pair (.int .i64) (.pair .bool (.pair .bool (.pair (.int .i64) (.int .i64)))))))))) else none
def a47 (i : Nat) : Option Shape :=
  bif i.beq 3 then some ⟨[(2, (.ty .bool))], [], [], []⟩ else none
def s47 : Sg := ⟨[(.ty (.int .u32))], [], ⟨[(0, (.ty .bool))], [], [], []⟩⟩
def f47 (N : Nat) (x : s47.inp) : Option s47.res := fnS N K78 t47 ⟨h47, a47⟩ s47 x
def c47 : Ctr := ⟨s47, f47⟩
theorem gc47 : GoodC TBDe 47 c47 := good2 (T := TBDe) (f := 47) (K := K78) (c := c47) (F := t47) (nt := ⟨h47, a47⟩) noSpDe gk78 (by kernel_rfl) rfl (by kernel_rfl) (by kernel_rfl) rfl (by kernel_rfl) (by intro N x; kernel_rfl)
def K47 : CTab := fun f svs => bif f.beq 47 then some c47 else K78 f svs
theorem gk47 : GoodK TBDe K47 := by
  intro f svs c h
  unfold K47 at h
  cases hf : f.beq 47 with
  | false => rw [hf] at h; exact gk78 f svs c h
  | true =>
    obtain rfl := Nat.eq_of_beq_eq_true hf
    rw [hf, cond_true] at h
    obtain rfl := Option.some.inj h
    exact ⟨gc47, by kernel_rfl⟩
def h11 (t : Nat) : Option Hn :=
  none
def a11 (i : Nat) : Option Shape :=
  bif i.beq 8 then some ⟨[(3, (.ty (.int .i64)))], [], [], []⟩ else bif i.beq 17 then some ⟨[(2, (.ty .bool))], [], [], []⟩ else none
def s11 : Sg := ⟨[(.ty (.int .u32))], [], ⟨[(0, (.ty .bool))], [], [], []⟩⟩
def f11 (N : Nat) (x : s11.inp) : Option s11.res := fnS N K47 t11 ⟨h11, a11⟩ s11 x
def c11 : Ctr := ⟨s11, f11⟩
theorem gc11 : GoodC TBDe 11 c11 := good1 (T := TBDe) (f := 11) (K := K47) (c := c11) (F := t11) (nt := ⟨h11, a11⟩) noSpDe gk47 (by kernel_rfl) rfl (by kernel_rfl) (by kernel_rfl) (by intro N x; kernel_rfl)
def K11 : CTab := fun f svs => bif f.beq 11 then some c11 else K47 f svs
theorem gk11 : GoodK TBDe K11 := by
  intro f svs c h
  unfold K11 at h
  cases hf : f.beq 11 with
  | false => rw [hf] at h; exact gk47 f svs c h
  | true =>
    obtain rfl := Nat.eq_of_beq_eq_true hf
    rw [hf, cond_true] at h
    obtain rfl := Option.some.inj h
    exact ⟨gc11, by kernel_rfl⟩
def h12 (t : Nat) : Option Hn :=
  none
def a12 (i : Nat) : Option Shape :=
  bif i.beq 8 then some ⟨[(5, (.ty (.int .i64)))], [], [], []⟩ else bif i.beq 15 then some ⟨[(38, (.ty .bool))], [], [], []⟩ else bif i.beq 18 then some ⟨[(4, (.ty .bool))], [], [], []⟩ else none
def s12 : Sg := ⟨[(.ty (.int .i64)), (.ty (.int .u32))], [], ⟨[(0, (.ty .bool))], [], [], []⟩⟩
def f12 (N : Nat) (x : s12.inp) : Option s12.res := fnS N K11 t12 ⟨h12, a12⟩ s12 x
def c12 : Ctr := ⟨s12, f12⟩
theorem gc12 : GoodC TBDe 12 c12 := good1 (T := TBDe) (f := 12) (K := K11) (c := c12) (F := t12) (nt := ⟨h12, a12⟩) noSpDe gk11 (by kernel_rfl) rfl (by kernel_rfl) (by kernel_rfl) (by intro N x; kernel_rfl)
def K12 : CTab := fun f svs => bif f.beq 12 then some c12 else K11 f svs
theorem gk12 : GoodK TBDe K12 := by
  intro f svs c h
  unfold K12 at h
  cases hf : f.beq 12 with
  | false => rw [hf] at h; exact gk11 f svs c h
  | true =>
    obtain rfl := Nat.eq_of_beq_eq_true hf
    rw [hf, cond_true] at h
    obtain rfl := Option.some.inj h
    exact ⟨gc12, by kernel_rfl⟩
def h13 (t : Nat) : Option Hn :=
  bif t.beq 3 then some (.ty (.pair (.int .i64) (.pair (.int .i64) (.pair (.int .i64) (.pair (.int .i64) (.pair (.int .i64) (.pair .bool (.pair .bool (.pair (.int .i64) (.int .i64)))))))))) else none
def a13 (i : Nat) : Option Shape :=
  bif i.beq 6 then some ⟨[], [(1, (.one (.ty (.pair (.int .i64) (.pair (.int .i64) (.pair (.int .i64) (.pair (.int .i64) (.pair (.int .i64) (.pair .bool (.pair .bool (.pair (.int .i64) (.int .i64))))))))))))], [], []⟩ else bif i.beq 9 then some ⟨[], [(1, (.one (.ty (.pair (.int .i64) (.pair (.int .i64) (.pair (.int .i64) (.pair (.int .i64) (.pair (.int .i64) (.pair .bool (.pair .bool (.pair (.int .i64) (.int .i64))))))))))))], [], []⟩ else bif i.beq 12 then some ⟨[], [(1, (.one (.ty (.pair (.int .i64) (.pair (.int .i64) (.pair (.int .i64) (.pair (.int .i64) (.pair (.int .i64) (.pair .bool (.pair .bool (.pair (.int .i64) (.int .i64))))))))))))], [], []⟩ else none
def s13 : Sg := ⟨[(.ty (.pair (.int .i64) (.pair (.int .i64) (.pair (.int .i64) (.pair (.int .i64) (.pair (.int .i64) (.pair .bool (.pair .bool (.pair (.int .i64) (.int .i64))))))))))], [], ⟨[(0, (.ty .bool))], [], [], []⟩⟩
def f13 (N : Nat) (x : s13.inp) : Option s13.res := fnS N K12 t13 ⟨h13, a13⟩ s13 x
def c13 : Ctr := ⟨s13, f13⟩
theorem gc13 : GoodC TBDe 13 c13 := good1 (T := TBDe) (f := 13) (K := K12) (c := c13) (F := t13) (nt := ⟨h13, a13⟩) noSpDe gk12 (by kernel_rfl) rfl (by kernel_rfl) (by kernel_rfl) (by intro N x; kernel_rfl)
def K13 : CTab := fun f svs => bif f.beq 13 then some c13 else K12 f svs
theorem gk13 : GoodK TBDe K13 := by
  intro f svs c h
  unfold K13 at h
  cases hf : f.beq 13 with
  | false => rw [hf] at h; exact gk12 f svs c h
  | true =>
    obtain rfl := Nat.eq_of_beq_eq_true hf
    rw [hf, cond_true] at h
    obtain rfl := Option.some.inj h
    exact ⟨gc13, by kernel_rfl⟩
def h14 (t : Nat) : Option Hn :=
  bif t.beq 5 then some (.ty (.pair (.int .i64) (.pair (.int .i64) (.pair (.int .i64) (.pair (.int .i64) (.pair (.int .i64) (.pair .bool (.pair .bool (.pair (.int .i64) (.int .i64)))))))))) else bif t.beq 8 then some (.ty (.pair (.int .i64) (.pair (.int .i64) (.pair (.int .i64) (.pair (.int .i64) (.pair (.int .i64) (.pair .bool (.pair .bool (.pair (.int .i64) (.int .i64)))))))))) else bif t.beq 10 then some (.ty (.pair (.int .i64) (.pair (.int .i64) (.pair (.int .i64) (.pair (.int .i64) (.pair (.int .i64) (.pair .bool (.pair .bool (.pair (.int .i64) (.int .i64)))))))))) else none
def a14 (i : Nat) : Option Shape :=
  bif i.beq 7 then some ⟨[(28, (.ty .bool))], [], [], []⟩ else bif i.beq 13 then some ⟨[(4, (.ty .bool))], [], [], []⟩ else none
def s14 : Sg := ⟨[(.ty (.int .u32)), (.ty (.int .u32))], [], ⟨[(0, (.ty .bool))], [], [], []⟩⟩
def f14 (N : Nat) (x : s14.inp) : Option s14.res := fnS N K13 t14 ⟨h14, a14⟩ s14 x
def c14 : Ctr := ⟨s14, f14⟩
theorem gc14 : GoodC TBDe 14 c14 := good1 (T := TBDe) (f := 14) (K := K13) (c := c14) (F := t14) (nt := ⟨h14, a14⟩) noSpDe gk13 (by kernel_rfl) rfl (by kernel_rfl) (by kernel_rfl) (by intro N x; kernel_rfl)
def K14 : CTab := fun f svs => bif f.beq 14 then some c14 else K13 f svs
theorem gk14 : GoodK TBDe K14 := by
  intro f svs c h
  unfold K14 at h
  cases hf : f.beq 14 with
  | false => rw [hf] at h; exact gk13 f svs c h
  | true =>
    obtain rfl := Nat.eq_of_beq_eq_true hf
    rw [hf, cond_true] at h
    obtain rfl := Option.some.inj h
    exact ⟨gc14, by kernel_rfl⟩
end Go.Proofs.Ytipdancojcdioaa
