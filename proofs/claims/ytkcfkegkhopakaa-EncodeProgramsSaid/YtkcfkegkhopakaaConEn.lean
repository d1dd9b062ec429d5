/- Contracts of functions, by their bodies and shapes. No condition. -/
import Derived.Test.YtkcfkegkhopakaaShX3
import Derived.Test.YtkcfkegkhopakaaTabEn
import Derived.KernelRfl
namespace Go.Proofs.Ytkcfkegkhopakaa
open Go Go.Ev Go.Sh
set_option maxRecDepth 100000
set_option linter.unusedVariables false
theorem noSpEn : NoSp TBEn := fun _ _ => rfl
def K0En : CTab := fun _ _ => none
theorem gk0En : GoodK TBEn K0En := fun _ _ _ h => by cases h
def h44 (t : Nat) : Option Hn :=
  none
def a44 (i : Nat) : Option Shape :=
  bif i.beq 4 then some ⟨[(4, (.ty .bool))], [], [], []⟩ else bif i.beq 11 then some ⟨[(8, (.ty .bool))], [], [], []⟩ else none
def s44 : Sg := ⟨[(.ty (.int .i64))], [], ⟨[(0, (.ty (.int .i64)))], [], [], []⟩⟩
def f44 (N : Nat) (x : s44.inp) : Option s44.res := fnS N K0En t44 ⟨h44, a44⟩ s44 x
def c44 : Ctr := ⟨s44, f44⟩
theorem gc44 : GoodC TBEn 44 c44 := good2 (T := TBEn) (f := 44) (K := K0En) (c := c44) (F := t44) (nt := ⟨h44, a44⟩) noSpEn gk0En (by kernel_rfl) rfl (by kernel_rfl) (by kernel_rfl) rfl (by kernel_rfl) (by intro N x; kernel_rfl)
def K44 : CTab := fun f svs => bif f.beq 44 then some c44 else K0En f svs
theorem gk44 : GoodK TBEn K44 := by
  intro f svs c h
  unfold K44 at h
  cases hf : f.beq 44 with
  | false => rw [hf] at h; exact gk0En f svs c h
  | true =>
    obtain rfl := Nat.eq_of_beq_eq_true hf
    rw [hf, cond_true] at h
    obtain rfl := Option.some.inj h
    exact ⟨gc44, by kernel_rfl⟩
def h32 (t : Nat) : Option Hn :=
  none
def a32 (i : Nat) : Option Shape :=
  bif i.beq 3 then some ⟨[(3, (.ty .bool))], [], [], []⟩ else none
def s32 : Sg := ⟨[(.ty (.int .i64))], [], ⟨[(0, (.ty (.int .i64)))], [], [], []⟩⟩
def f32 (N : Nat) (x : s32.inp) : Option s32.res := fnS N K44 t32 ⟨h32, a32⟩ s32 x
def c32 : Ctr := ⟨s32, f32⟩
theorem gc32 : GoodC TBEn 32 c32 := good2 (T := TBEn) (f := 32) (K := K44) (c := c32) (F := t32) (nt := ⟨h32, a32⟩) noSpEn gk44 (by kernel_rfl) rfl (by kernel_rfl) (by kernel_rfl) rfl (by kernel_rfl) (by intro N x; kernel_rfl)
def K32 : CTab := fun f svs => bif f.beq 32 then some c32 else K44 f svs
theorem gk32 : GoodK TBEn K32 := by
  intro f svs c h
  unfold K32 at h
  cases hf : f.beq 32 with
  | false => rw [hf] at h; exact gk44 f svs c h
  | true =>
    obtain rfl := Nat.eq_of_beq_eq_true hf
    rw [hf, cond_true] at h
    obtain rfl := Option.some.inj h
    exact ⟨gc32, by kernel_rfl⟩
def h45 (t : Nat) : Option Hn :=
  none
def a45 (i : Nat) : Option Shape :=
  bif i.beq 3 then some ⟨[], [], [], []⟩ else none
def s45 : Sg := ⟨[(.ty (.int .i64))], [], ⟨[(0, (.ty (.int .i64)))], [], [], []⟩⟩
def f45 (N : Nat) (x : s45.inp) : Option s45.res := fnS N K32 t45 ⟨h45, a45⟩ s45 x
def c45 : Ctr := ⟨s45, f45⟩
theorem gc45 : GoodC TBEn 45 c45 := good2 (T := TBEn) (f := 45) (K := K32) (c := c45) (F := t45) (nt := ⟨h45, a45⟩) noSpEn gk32 (by kernel_rfl) rfl (by kernel_rfl) (by kernel_rfl) rfl (by kernel_rfl) (by intro N x; kernel_rfl)
def K45 : CTab := fun f svs => bif f.beq 45 then some c45 else K32 f svs
theorem gk45 : GoodK TBEn K45 := by
  intro f svs c h
  unfold K45 at h
  cases hf : f.beq 45 with
  | false => rw [hf] at h; exact gk32 f svs c h
  | true =>
    obtain rfl := Nat.eq_of_beq_eq_true hf
    rw [hf, cond_true] at h
    obtain rfl := Option.some.inj h
    exact ⟨gc45, by kernel_rfl⟩
def h69 (t : Nat) : Option Hn :=
  bif t.beq 1 then some (.ty (.pair (.int .i64) (.pair (.int .i64) (.int .i64)))) else bif t.beq 2 then some (.ty (.pair (.int .i64) (.pair (.int .i64) (.int .i64)))) else bif t.beq 3 then some (.parts [some (.int .i64), some (.int .i64), none]) else bif t.beq 4 then some (.ty (.pair (.int .i64) (.pair (.int .i64) (.int .i64)))) else bif t.beq 5 then some (.ty (.pair (.int .i64) (.pair (.int .i64) (.int .i64)))) else bif t.beq 6 then some (.ty (.pair (.int .i64) (.pair (.int .i64) (.int .i64)))) else bif t.beq 7 then some (.parts [some (.int .i64), some (.int .i64), none]) else bif t.beq 8 then some (.ty (.pair (.int .i64) (.pair (.int .i64) (.int .i64)))) else bif t.beq 9 then some (.ty (.pair (.int .i64) (.pair (.int .i64) (.int .i64)))) else bif t.beq 10 then some (.ty (.pair (.int .i64) (.pair (.int .i64) (.int .i64)))) else bif t.beq 11 then some (.ty (.pair (.int .i64) (.pair (.int .i64) (.int .i64)))) else bif t.beq 12 then some (.ty (.pair (.int .i64) (.pair (.int .i64) (.int .i64)))) else bif t.beq 13 then some (.parts [some (.int .i64), some (.int .i64), none]) else bif t.beq 14 then some (.ty (.pair (.int .i64) (.pair (.int .i64) (.int .i64)))) else bif t.beq 15 then some (.ty (.pair (.int .i64) (.pair (.int .i64) (.int .i64)))) else bif t.beq 16 then some (.parts [some (.int .i64), some (.int .i64), none]) else bif t.beq 17 then some (.ty (.pair (.int .i64) (.pair (.int .i64) (.int .i64)))) else bif t.beq 18 then some (.ty (.pair (.int .i64) (.pair (.int .i64) (.int .i64)))) else bif t.beq 19 then some (.ty (.pair (.int .i64) (.pair (.int .i64) (.int .i64)))) else bif t.beq 20 then some (.ty (.pair (.int .i64) (.pair (.int .i64) (.int .i64)))) else bif t.beq 21 then some (.ty (.pair (.int .i64) (.pair (.int .i64) (.int .i64)))) else bif t.beq 22 then some (.parts [some (.int .i64), some (.int .i64), none]) else none
def a69 (i : Nat) : Option Shape :=
  none
def s69 : Sg := ⟨[], [], ⟨[(0, (.segs [(.ty (.int .i64)), (.ty (.int .i64)), .nils, (.ty (.int .i64)), (.ty (.int .i64)), (.sla 0 .yes), (.ty (.int .i64)), (.ty (.int .i64)), (.sla 1 .yes), (.ty (.int .i64)), (.ty (.int .i64)), (.sla 2 .yes), (.ty (.int .i64)), (.ty (.int .i64)), (.sla 3 .yes), (.ty (.int .i64)), (.ty (.int .i64)), (.sla 4 .yes)]))], [], [], [⟨true, (.many (.pair (.int .i64) (.pair (.int .i64) (.int .i64))))⟩, ⟨true, (.many (.pair (.int .i64) (.pair (.int .i64) (.int .i64))))⟩, ⟨true, (.many (.pair (.int .i64) (.pair (.int .i64) (.int .i64))))⟩, ⟨true, (.many (.pair (.int .i64) (.pair (.int .i64) (.int .i64))))⟩, ⟨true, (.many (.pair (.int .i64) (.pair (.int .i64) (.int .i64))))⟩]⟩⟩
def f69 (N : Nat) (x : s69.inp) : Option s69.res := fnS N K45 t69 ⟨h69, a69⟩ s69 x
def c69 : Ctr := ⟨s69, f69⟩
theorem gc69 : GoodC TBEn 69 c69 := good0 (T := TBEn) (f := 69) (K := K45) (c := c69) (F := t69) (nt := ⟨h69, a69⟩) noSpEn gk45 (by kernel_rfl) rfl (by kernel_rfl) (by intro N x; kernel_rfl)
def K69 : CTab := fun f svs => bif f.beq 69 then some c69 else K45 f svs
theorem gk69 : GoodK TBEn K69 := by
  intro f svs c h
  unfold K69 at h
  cases hf : f.beq 69 with
  | false => rw [hf] at h; exact gk45 f svs c h
  | true =>
    obtain rfl := Nat.eq_of_beq_eq_true hf
    rw [hf, cond_true] at h
    obtain rfl := Option.some.inj h
    exact ⟨gc69, by kernel_rfl⟩
def h64 (t : Nat) : Option Hn :=
  bif t.beq 2 then some (.parts [some (.int .i64), some (.int .i64), none]) else bif t.beq 10 then some (.parts [some (.int .i64), some (.int .i64), none]) else none
def a64 (i : Nat) : Option Shape :=
  bif i.beq 2 then some ⟨[(9, (.ty .bool))], [], [], []⟩ else bif i.beq 5 then some ⟨[(3, (.ty .bool))], [(0, (.one (.segs [(.ty (.int .i64)), (.ty (.int .i64)), (.sla 1 .yes)])))], [], [⟨true, (.many (.pair (.int .i64) (.pair (.int .i64) (.int .i64))))⟩]⟩ else none
def s64 : Sg := ⟨[(.ty (.int .i64))], [], ⟨[(0, (.tup [(.segs [(.ty (.int .i64)), (.ty (.int .i64)), (.sla 0 .yes)]), (.ty .bool)]))], [], [], [⟨true, (.many (.pair (.int .i64) (.pair (.int .i64) (.int .i64))))⟩]⟩⟩
def f64 (N : Nat) (x : s64.inp) : Option s64.res := fnS N K69 t64 ⟨h64, a64⟩ s64 x
def c64 : Ctr := ⟨s64, f64⟩
theorem gc64 : GoodC TBEn 64 c64 := good0 (T := TBEn) (f := 64) (K := K69) (c := c64) (F := t64) (nt := ⟨h64, a64⟩) noSpEn gk69 (by kernel_rfl) rfl (by kernel_rfl) (by intro N x; kernel_rfl)
def K64 : CTab := fun f svs => bif f.beq 64 then some c64 else K69 f svs
theorem gk64 : GoodK TBEn K64 := by
  intro f svs c h
  unfold K64 at h
  cases hf : f.beq 64 with
  | false => rw [hf] at h; exact gk69 f svs c h
  | true =>
    obtain rfl := Nat.eq_of_beq_eq_true hf
    rw [hf, cond_true] at h
    obtain rfl := Option.some.inj h
    exact ⟨gc64, by kernel_rfl⟩
def h66 (t : Nat) : Option Hn :=
  none
def a66 (i : Nat) : Option Shape :=
  none
def s66 : Sg := ⟨[(.ty (.int .u64)), (.ty (.int .i64))], [], ⟨[(0, (.ty (.int .u64)))], [], [], []⟩⟩
def f66 (N : Nat) (x : s66.inp) : Option s66.res := fnS N K64 t66 ⟨h66, a66⟩ s66 x
def c66 : Ctr := ⟨s66, f66⟩
theorem gc66 : GoodC TBEn 66 c66 := good2 (T := TBEn) (f := 66) (K := K64) (c := c66) (F := t66) (nt := ⟨h66, a66⟩) noSpEn gk64 (by kernel_rfl) rfl (by kernel_rfl) (by kernel_rfl) rfl (by kernel_rfl) (by intro N x; kernel_rfl)
def K66 : CTab := fun f svs => bif f.beq 66 then some c66 else K64 f svs
theorem gk66 : GoodK TBEn K66 := by
  intro f svs c h
  unfold K66 at h
  cases hf : f.beq 66 with
  | false => rw [hf] at h; exact gk64 f svs c h
  | true =>
    obtain rfl := Nat.eq_of_beq_eq_true hf
    rw [hf, cond_true] at h
    obtain rfl := Option.some.inj h
    exact ⟨gc66, by kernel_rfl⟩
def h65 (t : Nat) : Option Hn :=
  none
def a65 (i : Nat) : Option Shape :=
  bif i.beq 2 then some ⟨[(10, (.ty .bool))], [], [], []⟩ else none
def s65 : Sg := ⟨[(.ty (.int .u64)), (.ty (.int .i64))], [], ⟨[(0, (.ty (.int .u64)))], [], [], []⟩⟩
def f65 (N : Nat) (x : s65.inp) : Option s65.res := fnS N K66 t65 ⟨h65, a65⟩ s65 x
def c65 : Ctr := ⟨s65, f65⟩
theorem gc65 : GoodC TBEn 65 c65 := good2 (T := TBEn) (f := 65) (K := K66) (c := c65) (F := t65) (nt := ⟨h65, a65⟩) noSpEn gk66 (by kernel_rfl) rfl (by kernel_rfl) (by kernel_rfl) rfl (by kernel_rfl) (by intro N x; kernel_rfl)
def K65 : CTab := fun f svs => bif f.beq 65 then some c65 else K66 f svs
theorem gk65 : GoodK TBEn K65 := by
  intro f svs c h
  unfold K65 at h
  cases hf : f.beq 65 with
  | false => rw [hf] at h; exact gk66 f svs c h
  | true =>
    obtain rfl := Nat.eq_of_beq_eq_true hf
    rw [hf, cond_true] at h
    obtain rfl := Option.some.inj h
    exact ⟨gc65, by kernel_rfl⟩
def h46 (t : Nat) : Option Hn :=
  bif t.beq 6 then some (.parts [some (.int .i64), some (.int .i64), none]) else bif t.beq 10 then some (.ty (.pair (.int .i64) (.pair (.int .i64) (.int .i64)))) else none
def a46 (i : Nat) : Option Shape :=
  bif i.beq 3 then some ⟨[(35, (.ty .bool))], [], [], []⟩ else bif i.beq 10 then some ⟨[(8, (.ty (.int .u32))), (39, (.ty (.int .i64)))], [], [], []⟩ else none
def s46 : Sg := ⟨[(.ty (.int .i64)), (.ty (.int .i64))], [], ⟨[(0, (.tup [(.ty (.int .u32)), (.ty .bool)]))], [], [], []⟩⟩
def f46 (N : Nat) (x : s46.inp) : Option s46.res := fnS N K65 t46 ⟨h46, a46⟩ s46 x
def c46 : Ctr := ⟨s46, f46⟩
theorem gc46 : GoodC TBEn 46 c46 := good2 (T := TBEn) (f := 46) (K := K65) (c := c46) (F := t46) (nt := ⟨h46, a46⟩) noSpEn gk65 (by kernel_rfl) rfl (by kernel_rfl) (by kernel_rfl) rfl (by kernel_rfl) (by intro N x; kernel_rfl)
def K46 : CTab := fun f svs => bif f.beq 46 then some c46 else K65 f svs
theorem gk46 : GoodK TBEn K46 := by
  intro f svs c h
  unfold K46 at h
  cases hf : f.beq 46 with
  | false => rw [hf] at h; exact gk65 f svs c h
  | true =>
    obtain rfl := Nat.eq_of_beq_eq_true hf
    rw [hf, cond_true] at h
    obtain rfl := Option.some.inj h
    exact ⟨gc46, by kernel_rfl⟩
def h19 (t : Nat) : Option Hn :=
  none
def a19 (i : Nat) : Option Shape :=
  bif i.beq 5 then some ⟨[(2, (.ty (.int .u32))), (3, (.ty .bool))], [], [], []⟩ else none
def s19 : Sg := ⟨[(.ty (.pair (.int .i64) (.pair (.int .i64) (.pair (.int .i64) (.pair (.int .i64) (.pair (.int .i64) (.pair .bool (.pair .bool (.pair (.int .i64) (.int .i64))))))))))], [], ⟨[(0, (.tup [(.ty (.int .u32)), (.ty .bool)]))], [], [], []⟩⟩
def f19 (N : Nat) (x : s19.inp) : Option s19.res := fnS N K46 t19 ⟨h19, a19⟩ s19 x
def c19 : Ctr := ⟨s19, f19⟩
theorem gc19 : GoodC TBEn 19 c19 := good2 (T := TBEn) (f := 19) (K := K46) (c := c19) (F := t19) (nt := ⟨h19, a19⟩) noSpEn gk46 (by kernel_rfl) rfl (by kernel_rfl) (by kernel_rfl) rfl (by kernel_rfl) (by intro N x; kernel_rfl)
def K19 : CTab := fun f svs => bif f.beq 19 then some c19 else K46 f svs
theorem gk19 : GoodK TBEn K19 := by
  intro f svs c h
  unfold K19 at h
  cases hf : f.beq 19 with
  | false => rw [hf] at h; exact gk46 f svs c h
  | true =>
    obtain rfl := Nat.eq_of_beq_eq_true hf
    rw [hf, cond_true] at h
    obtain rfl := Option.some.inj h
    exact ⟨gc19, by kernel_rfl⟩
def h68 (t : Nat) : Option Hn :=
  none
def a68 (i : Nat) : Option Shape :=
  bif i.beq 2 then some ⟨[(8, (.ty .bool))], [], [], []⟩ else none
def s68 : Sg := ⟨[(.ty (.int .i64))], [], ⟨[(0, (.ty (.int .i64)))], [], [], []⟩⟩
def f68 (N : Nat) (x : s68.inp) : Option s68.res := fnS N K19 t68 ⟨h68, a68⟩ s68 x
def c68 : Ctr := ⟨s68, f68⟩
theorem gc68 : GoodC TBEn 68 c68 := good2 (T := TBEn) (f := 68) (K := K19) (c := c68) (F := t68) (nt := ⟨h68, a68⟩) noSpEn gk19 (by kernel_rfl) rfl (by kernel_rfl) (by kernel_rfl) rfl (by kernel_rfl) (by intro N x; kernel_rfl)
def K68 : CTab := fun f svs => bif f.beq 68 then some c68 else K19 f svs
theorem gk68 : GoodK TBEn K68 := by
  intro f svs c h
  unfold K68 at h
  cases hf : f.beq 68 with
  | false => rw [hf] at h; exact gk19 f svs c h
  | true =>
    obtain rfl := Nat.eq_of_beq_eq_true hf
    rw [hf, cond_true] at h
    obtain rfl := Option.some.inj h
    exact ⟨gc68, by kernel_rfl⟩
def h49 (t : Nat) : Option Hn :=
  none
def a49 (i : Nat) : Option Shape :=
  bif i.beq 4 then some ⟨[(6, (.ty .bool))], [], [], []⟩ else none
def s49 : Sg := ⟨[(.ty (.pair (.int .i64) (.pair (.int .i64) (.pair (.int .i64) (.pair (.int .i64) (.pair (.int .i64) (.pair .bool (.pair .bool (.pair (.int .i64) (.int .i64))))))))))], [], ⟨[(0, (.ty (.int .i64)))], [], [], []⟩⟩
def f49 (N : Nat) (x : s49.inp) : Option s49.res := fnS N K68 t49 ⟨h49, a49⟩ s49 x
def c49 : Ctr := ⟨s49, f49⟩
theorem gc49 : GoodC TBEn 49 c49 := good2 (T := TBEn) (f := 49) (K := K68) (c := c49) (F := t49) (nt := ⟨h49, a49⟩) noSpEn gk68 (by kernel_rfl) rfl (by kernel_rfl) (by kernel_rfl) rfl (by kernel_rfl) (by intro N x; kernel_rfl)
def K49 : CTab := fun f svs => bif f.beq 49 then some c49 else K68 f svs
theorem gk49 : GoodK TBEn K49 := by
  intro f svs c h
  unfold K49 at h
  cases hf : f.beq 49 with
  | false => rw [hf] at h; exact gk68 f svs c h
  | true =>
    obtain rfl := Nat.eq_of_beq_eq_true hf
    rw [hf, cond_true] at h
    obtain rfl := Option.some.inj h
    exact ⟨gc49, by kernel_rfl⟩
def h50 (t : Nat) : Option Hn :=
  bif t.beq 22 then some (.ty (.int .i64)) else bif t.beq 30 then some (.ty (.int .i64)) else bif t.beq 39 then some (.ty (.int .i64)) else bif t.beq 50 then some (.ty (.int .i64)) else none
def a50 (i : Nat) : Option Shape :=
  bif i.beq 4 then some ⟨[(3, (.sla 1 .yes))], [], [], [⟨true, (.many (.int .i64))⟩]⟩ else bif i.beq 5 then some ⟨[(10, (.ty .bool))], [], [], []⟩ else bif i.beq 15 then some ⟨[(23, (.ty .bool))], [], [], []⟩ else bif i.beq 29 then some ⟨[(4, (.sla 2 .yes)), (42, (.ty (.int .i64)))], [], [], [⟨true, (.many (.int .i64))⟩]⟩ else bif i.beq 34 then some ⟨[(4, (.sla 3 .yes))], [], [2], [⟨true, (.many (.int .i64))⟩]⟩ else none
def s50 : Sg := ⟨[(.ty (.pair (.int .i64) (.pair (.int .i64) (.pair (.int .i64) (.pair (.int .i64) (.pair (.int .i64) (.pair .bool (.pair .bool (.pair (.int .i64) (.int .i64))))))))))], [], ⟨[(0, (.sla 0 .yes))], [], [], [⟨true, (.many (.int .i64))⟩]⟩⟩
def f50 (N : Nat) (x : s50.inp) : Option s50.res := fnS N K49 t50 ⟨h50, a50⟩ s50 x
def c50 : Ctr := ⟨s50, f50⟩
theorem gc50 : GoodC TBEn 50 c50 := good3 (T := TBEn) (f := 50) (K := K49) (c := c50) (F := t50) (nt := ⟨h50, a50⟩) noSpEn gk49 (by kernel_rfl) rfl (by kernel_rfl) (by kernel_rfl) (by intro N x; kernel_rfl)
def K50 : CTab := fun f svs => bif f.beq 50 then some c50 else K49 f svs
theorem gk50 : GoodK TBEn K50 := by
  intro f svs c h
  unfold K50 at h
  cases hf : f.beq 50 with
  | false => rw [hf] at h; exact gk49 f svs c h
  | true =>
    obtain rfl := Nat.eq_of_beq_eq_true hf
    rw [hf, cond_true] at h
    obtain rfl := Option.some.inj h
    exact ⟨gc50, by kernel_rfl⟩
def h33 (t : Nat) : Option Hn :=
  bif t.beq 2 then some (.ty (.pair (.int .i64) (.pair (.int .i64) (.pair (.int .i64) (.pair (.int .i64) (.pair (.int .i64) (.pair .bool (.pair .bool (.pair (.int .i64) (.int .i64)))))))))) else bif t.beq 3 then some (.ty (.pair (.int .i64) (.pair (.int .i64) (.pair (.int .i64) (.pair (.int .i64) (.pair (.int .i64) (.pair .bool (.pair .bool (.pair (.int .i64) (.int .i64)))))))))) else bif t.beq 4 then some (.ty (.arr 4 .bool)) else bif t.beq 9 then some (.ty (.pair (.int .i64) (.pair (.int .i64) (.pair (.int .i64) (.pair (.int .i64) (.pair (.int .i64) (.pair .bool (.pair .bool (.pair (.int .i64) (.int .i64)))))))))) else bif t.beq 14 then some (.ty (.arr 4 .bool)) else none
def a33 (i : Nat) : Option Shape :=
  bif i.beq 2 then some ⟨[], [(0, (.one (.segs [(.ty (.pair (.int .i64) (.pair (.int .i64) (.pair (.int .i64) (.pair (.int .i64) (.pair (.int .i64) (.pair .bool (.pair .bool (.pair (.int .i64) (.int .i64))))))))))])))], [], []⟩ else bif i.beq 9 then some ⟨[(18, (.ty (.int .i64)))], [(3, (.one (.ty (.arr 4 .bool))))], [], []⟩ else bif i.beq 16 then some ⟨[], [(0, (.one (.segs [(.ty (.pair (.int .i64) (.pair (.int .i64) (.pair (.int .i64) (.pair (.int .i64) (.pair (.int .i64) (.pair .bool (.pair .bool (.pair (.int .i64) (.int .i64))))))))))])))], [], []⟩ else bif i.beq 19 then some ⟨[], [(0, (.one (.segs [(.ty (.pair (.int .i64) (.pair (.int .i64) (.pair (.int .i64) (.pair (.int .i64) (.pair (.int .i64) (.pair .bool (.pair .bool (.pair (.int .i64) (.int .i64))))))))))])))], [], []⟩ else none
def s33 : Sg := ⟨[(.ty (.pair (.int .i64) (.pair (.int .i64) (.pair (.int .i64) (.pair (.int .i64) (.pair (.int .i64) (.pair .bool (.pair .bool (.pair (.int .i64) (.int .i64))))))))))], [], ⟨[(0, (.ty (.pair (.int .i64) (.pair (.int .i64) (.pair (.int .i64) (.pair (.int .i64) (.pair (.int .i64) (.pair .bool (.pair .bool (.pair (.int .i64) (.int .i64)))))))))))], [], [], []⟩⟩
def f33 (N : Nat) (x : s33.inp) : Option s33.res := fnS N K50 t33 ⟨h33, a33⟩ s33 x
def c33 : Ctr := ⟨s33, f33⟩
theorem gc33 : GoodC TBEn 33 c33 := good2 (T := TBEn) (f := 33) (K := K50) (c := c33) (F := t33) (nt := ⟨h33, a33⟩) noSpEn gk50 (by kernel_rfl) rfl (by kernel_rfl) (by kernel_rfl) rfl (by kernel_rfl) (by intro N x; kernel_rfl)
def K33 : CTab := fun f svs => bif f.beq 33 then some c33 else K50 f svs
theorem gk33 : GoodK TBEn K33 := by
  intro f svs c h
  unfold K33 at h
  cases hf : f.beq 33 with
  | false => rw [hf] at h; exact gk50 f svs c h
  | true =>
    obtain rfl := Nat.eq_of_beq_eq_true hf
    rw [hf, cond_true] at h
    obtain rfl := Option.some.inj h
    exact ⟨gc33, by kernel_rfl⟩
def h10 (t : Nat) : Option Hn :=
  bif t.beq 75 then some (.ty (.arr 3 (.int .i64))) else none
def a10 (i : Nat) : Option Shape :=
  bif i.beq 5 then some ⟨[(16, (.ty .bool))], [], [], []⟩ else bif i.beq 16 then some ⟨[(2, (.ty .bool))], [], [], []⟩ else bif i.beq 19 then some ⟨[(2, (.ty .bool))], [], [], []⟩ else bif i.beq 23 then some ⟨[(76, (.ty (.int .i64)))], [], [], []⟩ else bif i.beq 30 then some ⟨[(84, (.ty .bool))], [], [], []⟩ else bif i.beq 33 then some ⟨[(2, (.ty .bool))], [], [], []⟩ else none
def s10 : Sg := ⟨[(.ty (.pair (.int .i64) (.pair (.int .i64) (.pair (.int .i64) (.pair (.int .i64) (.pair (.int .i64) (.pair .bool (.pair .bool (.pair (.int .i64) (.int .i64))))))))))], [], ⟨[(0, (.ty .bool))], [], [], []⟩⟩
def f10 (N : Nat) (x : s10.inp) : Option s10.res := fnS N K33 t10 ⟨h10, a10⟩ s10 x
def c10 : Ctr := ⟨s10, f10⟩
theorem gc10 : GoodC TBEn 10 c10 := good2 (T := TBEn) (f := 10) (K := K33) (c := c10) (F := t10) (nt := ⟨h10, a10⟩) noSpEn gk33 (by kernel_rfl) rfl (by kernel_rfl) (by kernel_rfl) rfl (by kernel_rfl) (by intro N x; kernel_rfl)
def K10 : CTab := fun f svs => bif f.beq 10 then some c10 else K33 f svs
theorem gk10 : GoodK TBEn K10 := by
  intro f svs c h
  unfold K10 at h
  cases hf : f.beq 10 with
  | false => rw [hf] at h; exact gk33 f svs c h
  | true =>
    obtain rfl := Nat.eq_of_beq_eq_true hf
    rw [hf, cond_true] at h
    obtain rfl := Option.some.inj h
    exact ⟨gc10, by kernel_rfl⟩
def h21 (t : Nat) : Option Hn :=
  none
def a21 (i : Nat) : Option Shape :=
  none
def s21 : Sg := ⟨[(.ty (.int .i64))], [], ⟨[(0, (.ty (.int .u32)))], [], [], []⟩⟩
def f21 (N : Nat) (x : s21.inp) : Option s21.res := fnS N K10 t21 ⟨h21, a21⟩ s21 x
def c21 : Ctr := ⟨s21, f21⟩
theorem gc21 : GoodC TBEn 21 c21 := good2 (T := TBEn) (f := 21) (K := K10) (c := c21) (F := t21) (nt := ⟨h21, a21⟩) noSpEn gk10 (by kernel_rfl) rfl (by kernel_rfl) (by kernel_rfl) rfl (by kernel_rfl) (by intro N x; kernel_rfl)
def K21 : CTab := fun f svs => bif f.beq 21 then some c21 else K10 f svs
theorem gk21 : GoodK TBEn K21 := by
  intro f svs c h
  unfold K21 at h
  cases hf : f.beq 21 with
  | false => rw [hf] at h; exact gk10 f svs c h
  | true =>
    obtain rfl := Nat.eq_of_beq_eq_true hf
    rw [hf, cond_true] at h
    obtain rfl := Option.some.inj h
    exact ⟨gc21, by kernel_rfl⟩
def h47 (t : Nat) : Option Hn :=
  none
def a47 (i : Nat) : Option Shape :=
  bif i.beq 4 then some ⟨[(4, (.ty .bool))], [], [], []⟩ else bif i.beq 11 then some ⟨[(8, (.ty .bool))], [], [], []⟩ else bif i.beq 18 then some ⟨[(12, (.ty .bool))], [], [], []⟩ else bif i.beq 29 then some ⟨[(18, (.ty .bool))], [], [], []⟩ else none
def s47 : Sg := ⟨[(.ty (.int .i64))], [], ⟨[(0, (.ty (.int .i64)))], [], [], []⟩⟩
def f47 (N : Nat) (x : s47.inp) : Option s47.res := fnS N K21 t47 ⟨h47, a47⟩ s47 x
def c47 : Ctr := ⟨s47, f47⟩
theorem gc47 : GoodC TBEn 47 c47 := good2 (T := TBEn) (f := 47) (K := K21) (c := c47) (F := t47) (nt := ⟨h47, a47⟩) noSpEn gk21 (by kernel_rfl) rfl (by kernel_rfl) (by kernel_rfl) rfl (by kernel_rfl) (by intro N x; kernel_rfl)
def K47 : CTab := fun f svs => bif f.beq 47 then some c47 else K21 f svs
theorem gk47 : GoodK TBEn K47 := by
  intro f svs c h
  unfold K47 at h
  cases hf : f.beq 47 with
  | false => rw [hf] at h; exact gk21 f svs c h
  | true =>
    obtain rfl := Nat.eq_of_beq_eq_true hf
    rw [hf, cond_true] at h
    obtain rfl := Option.some.inj h
    exact ⟨gc47, by kernel_rfl⟩
def h22 (t : Nat) : Option Hn :=
  bif t.beq 7 then some (.ty (.arr 6 (.int .u32))) else none
def a22 (i : Nat) : Option Shape :=
  bif i.beq 13 then some ⟨[(21, (.ty .bool))], [], [], []⟩ else bif i.beq 27 then some ⟨[(29, (.ty .bool))], [], [], []⟩ else bif i.beq 36 then some ⟨[(34, (.ty .bool))], [], [], []⟩ else bif i.beq 41 then some ⟨[(37, (.ty .bool))], [], [], []⟩ else bif i.beq 46 then some ⟨[(40, (.ty .bool))], [], [], []⟩ else bif i.beq 51 then some ⟨[(43, (.ty .bool))], [], [], []⟩ else bif i.beq 68 then some ⟨[(52, (.ty .bool))], [], [], []⟩ else bif i.beq 73 then some ⟨[(55, (.ty .bool))], [], [], []⟩ else none
def s22 : Sg := ⟨[(.ty (.int .i64))], [], ⟨[(0, (.ty (.int .u32)))], [], [], []⟩⟩
def f22 (N : Nat) (x : s22.inp) : Option s22.res := fnS N K47 t22 ⟨h22, a22⟩ s22 x
def c22 : Ctr := ⟨s22, f22⟩
theorem gc22 : GoodC TBEn 22 c22 := good2 (T := TBEn) (f := 22) (K := K47) (c := c22) (F := t22) (nt := ⟨h22, a22⟩) noSpEn gk47 (by kernel_rfl) rfl (by kernel_rfl) (by kernel_rfl) rfl (by kernel_rfl) (by intro N x; kernel_rfl)
def K22 : CTab := fun f svs => bif f.beq 22 then some c22 else K47 f svs
theorem gk22 : GoodK TBEn K22 := by
  intro f svs c h
  unfold K22 at h
  cases hf : f.beq 22 with
  | false => rw [hf] at h; exact gk47 f svs c h
  | true =>
    obtain rfl := Nat.eq_of_beq_eq_true hf
    rw [hf, cond_true] at h
    obtain rfl := Option.some.inj h
    exact ⟨gc22, by kernel_rfl⟩
def h23 (t : Nat) : Option Hn :=
  bif t.beq 3 then some (.ty (.arr 9 (.int .u32))) else bif t.beq 12 then some (.ty (.arr 9 (.int .u32))) else none
def a23 (i : Nat) : Option Shape :=
  bif i.beq 17 then some ⟨[(20, (.ty .bool))], [], [], []⟩ else none
def s23 : Sg := ⟨[(.ty (.int .i64))], [], ⟨[(0, (.ty (.int .u32)))], [], [], []⟩⟩
def f23 (N : Nat) (x : s23.inp) : Option s23.res := fnS N K22 t23 ⟨h23, a23⟩ s23 x
def c23 : Ctr := ⟨s23, f23⟩
theorem gc23 : GoodC TBEn 23 c23 := good2 (T := TBEn) (f := 23) (K := K22) (c := c23) (F := t23) (nt := ⟨h23, a23⟩) noSpEn gk22 (by kernel_rfl) rfl (by kernel_rfl) (by kernel_rfl) rfl (by kernel_rfl) (by intro N x; kernel_rfl)
def K23 : CTab := fun f svs => bif f.beq 23 then some c23 else K22 f svs
theorem gk23 : GoodK TBEn K23 := by
  intro f svs c h
  unfold K23 at h
  cases hf : f.beq 23 with
  | false => rw [hf] at h; exact gk22 f svs c h
  | true =>
    obtain rfl := Nat.eq_of_beq_eq_true hf
    rw [hf, cond_true] at h
    obtain rfl := Option.some.inj h
    exact ⟨gc23, by kernel_rfl⟩
def h24 (t : Nat) : Option Hn :=
  none
def a24 (i : Nat) : Option Shape :=
  none
def s24 : Sg := ⟨[(.ty .bool), (.ty (.int .i64))], [], ⟨[(0, (.ty (.int .u32)))], [], [], []⟩⟩
def f24 (N : Nat) (x : s24.inp) : Option s24.res := fnS N K23 t24 ⟨h24, a24⟩ s24 x
def c24 : Ctr := ⟨s24, f24⟩
theorem gc24 : GoodC TBEn 24 c24 := good2 (T := TBEn) (f := 24) (K := K23) (c := c24) (F := t24) (nt := ⟨h24, a24⟩) noSpEn gk23 (by kernel_rfl) rfl (by kernel_rfl) (by kernel_rfl) rfl (by kernel_rfl) (by intro N x; kernel_rfl)
def K24 : CTab := fun f svs => bif f.beq 24 then some c24 else K23 f svs
theorem gk24 : GoodK TBEn K24 := by
  intro f svs c h
  unfold K24 at h
  cases hf : f.beq 24 with
  | false => rw [hf] at h; exact gk23 f svs c h
  | true =>
    obtain rfl := Nat.eq_of_beq_eq_true hf
    rw [hf, cond_true] at h
    obtain rfl := Option.some.inj h
    exact ⟨gc24, by kernel_rfl⟩
def h20 (t : Nat) : Option Hn :=
  none
def a20 (i : Nat) : Option Shape :=
  bif i.beq 5 then some ⟨[(3, (.ty (.int .u32))), (8, (.ty (.int .i64)))], [], [], []⟩ else none
def s20 : Sg := ⟨[(.sla 0 .any)], [⟨false, (.many (.int .u32))⟩], ⟨[(0, (.ty (.int .u32)))], [], [], []⟩⟩
def f20 (N : Nat) (x : s20.inp) : Option s20.res := fnS N K24 t20 ⟨h20, a20⟩ s20 x
def c20 : Ctr := ⟨s20, f20⟩
theorem gc20 : GoodC TBEn 20 c20 := good1 (T := TBEn) (f := 20) (K := K24) (c := c20) (F := t20) (nt := ⟨h20, a20⟩) noSpEn gk24 (by kernel_rfl) rfl (by kernel_rfl) (by kernel_rfl) (by intro N x; kernel_rfl)
def K20 : CTab := fun f svs => bif f.beq 20 then some c20 else K24 f svs
theorem gk20 : GoodK TBEn K20 := by
  intro f svs c h
  unfold K20 at h
  cases hf : f.beq 20 with
  | false => rw [hf] at h; exact gk24 f svs c h
  | true =>
    obtain rfl := Nat.eq_of_beq_eq_true hf
    rw [hf, cond_true] at h
    obtain rfl := Option.some.inj h
    exact ⟨gc20, by kernel_rfl⟩
def h8 (t : Nat) : Option Hn :=
  bif t.beq 51 then some (.ty (.int .u32)) else none
def a8 (i : Nat) : Option Shape :=
  none
def s8 : Sg := ⟨[(.ty (.pair (.int .i64) (.pair (.int .i64) (.pair (.int .i64) (.pair (.int .i64) (.pair (.int .i64) (.pair .bool (.pair .bool (.pair (.int .i64) (.int .i64))))))))))], [], ⟨[(0, (.tup [(.ty (.int .u32)), (.ty (.int .i64))]))], [], [], []⟩⟩
def f8 (N : Nat) (x : s8.inp) : Option s8.res := fnS N K20 t8 ⟨h8, a8⟩ s8 x
def c8 : Ctr := ⟨s8, f8⟩
theorem gc8 : GoodC TBEn 8 c8 := good2 (T := TBEn) (f := 8) (K := K20) (c := c8) (F := t8) (nt := ⟨h8, a8⟩) noSpEn gk20 (by kernel_rfl) rfl (by kernel_rfl) (by kernel_rfl) rfl (by kernel_rfl) (by intro N x; kernel_rfl)
def K8 : CTab := fun f svs => bif f.beq 8 then some c8 else K20 f svs
theorem gk8 : GoodK TBEn K8 := by
  intro f svs c h
  unfold K8 at h
  cases hf : f.beq 8 with
  | false => rw [hf] at h; exact gk20 f svs c h
  | true =>
    obtain rfl := Nat.eq_of_beq_eq_true hf
    rw [hf, cond_true] at h
    obtain rfl := Option.some.inj h
    exact ⟨gc8, by kernel_rfl⟩
def h42 (t : Nat) : Option Hn :=
  none
def a42 (i : Nat) : Option Shape :=
  bif i.beq 5 then some ⟨[(3, (.ty (.int .u64))), (4, (.ty (.int .i64)))], [], [], []⟩ else none
def s42 : Sg := ⟨[(.sla 0 .any)], [⟨false, (.many (.int .u8))⟩], ⟨[(0, (.ty (.int .u64)))], [], [], []⟩⟩
def f42 (N : Nat) (x : s42.inp) : Option s42.res := fnS N K8 t42 ⟨h42, a42⟩ s42 x
def c42 : Ctr := ⟨s42, f42⟩
theorem gc42 : GoodC TBEn 42 c42 := good1 (T := TBEn) (f := 42) (K := K8) (c := c42) (F := t42) (nt := ⟨h42, a42⟩) noSpEn gk8 (by kernel_rfl) rfl (by kernel_rfl) (by kernel_rfl) (by intro N x; kernel_rfl)
def K42 : CTab := fun f svs => bif f.beq 42 then some c42 else K8 f svs
theorem gk42 : GoodK TBEn K42 := by
  intro f svs c h
  unfold K42 at h
  cases hf : f.beq 42 with
  | false => rw [hf] at h; exact gk8 f svs c h
  | true =>
    obtain rfl := Nat.eq_of_beq_eq_true hf
    rw [hf, cond_true] at h
    obtain rfl := Option.some.inj h
    exact ⟨gc42, by kernel_rfl⟩
def h61 (t : Nat) : Option Hn :=
  none
def a61 (i : Nat) : Option Shape :=
  bif i.beq 2 then some ⟨[(17, (.ty .bool))], [], [], []⟩ else none
def s61 : Sg := ⟨[(.ty (.int .u32)), (.ty (.int .i64)), (.ty (.int .i64))], [], ⟨[(0, (.ty (.int .u32)))], [], [], []⟩⟩
def f61 (N : Nat) (x : s61.inp) : Option s61.res := fnS N K42 t61 ⟨h61, a61⟩ s61 x
def c61 : Ctr := ⟨s61, f61⟩
theorem gc61 : GoodC TBEn 61 c61 := good2 (T := TBEn) (f := 61) (K := K42) (c := c61) (F := t61) (nt := ⟨h61, a61⟩) noSpEn gk42 (by kernel_rfl) rfl (by kernel_rfl) (by kernel_rfl) rfl (by kernel_rfl) (by intro N x; kernel_rfl)
def K61 : CTab := fun f svs => bif f.beq 61 then some c61 else K42 f svs
theorem gk61 : GoodK TBEn K61 := by
  intro f svs c h
  unfold K61 at h
  cases hf : f.beq 61 with
  | false => rw [hf] at h; exact gk42 f svs c h
  | true =>
    obtain rfl := Nat.eq_of_beq_eq_true hf
    rw [hf, cond_true] at h
    obtain rfl := Option.some.inj h
    exact ⟨gc61, by kernel_rfl⟩
def h60 (t : Nat) : Option Hn :=
  none
def a60 (i : Nat) : Option Shape :=
  none
def s60 : Sg := ⟨[(.ty (.int .i64)), (.ty (.int .i64)), (.ptr 0)], [⟨false, (.one (.segs [(.ty (.int .u32))]))⟩], ⟨[(0, (.ty (.int .u32)))], [], [], []⟩⟩
def f60 (N : Nat) (x : s60.inp) : Option s60.res := fnS N K61 t60 ⟨h60, a60⟩ s60 x
def c60 : Ctr := ⟨s60, f60⟩
theorem gc60 : GoodC TBEn 60 c60 := good1 (T := TBEn) (f := 60) (K := K61) (c := c60) (F := t60) (nt := ⟨h60, a60⟩) noSpEn gk61 (by kernel_rfl) rfl (by kernel_rfl) (by kernel_rfl) (by intro N x; kernel_rfl)
def K60 : CTab := fun f svs => bif f.beq 60 then some c60 else K61 f svs
theorem gk60 : GoodK TBEn K60 := by
  intro f svs c h
  unfold K60 at h
  cases hf : f.beq 60 with
  | false => rw [hf] at h; exact gk61 f svs c h
  | true =>
    obtain rfl := Nat.eq_of_beq_eq_true hf
    rw [hf, cond_true] at h
    obtain rfl := Option.some.inj h
    exact ⟨gc60, by kernel_rfl⟩
def h40 (t : Nat) : Option Hn :=
  bif t.beq 2 then some (.ty (.pair (.int .u32) (.pair (.int .i64) (.pair (.int .i64) (.pair (.int .i64) (.pair (.int .u32) (.int .u32))))))) else bif t.beq 19 then some (.ty (.pair (.int .u32) (.pair (.int .i64) (.pair (.int .i64) (.pair (.int .i64) (.pair (.int .u32) (.int .u32))))))) else none
def a40 (i : Nat) : Option Shape :=
  none
def s40 : Sg := ⟨[(.ty (.int .u32))], [], ⟨[(0, (.ty (.pair (.int .u32) (.pair (.int .i64) (.pair (.int .i64) (.pair (.int .i64) (.pair (.int .u32) (.int .u32))))))))], [], [], []⟩⟩
def f40 (N : Nat) (x : s40.inp) : Option s40.res := fnS N K60 t40 ⟨h40, a40⟩ s40 x
def c40 : Ctr := ⟨s40, f40⟩
theorem gc40 : GoodC TBEn 40 c40 := good2 (T := TBEn) (f := 40) (K := K60) (c := c40) (F := t40) (nt := ⟨h40, a40⟩) noSpEn gk60 (by kernel_rfl) rfl (by kernel_rfl) (by kernel_rfl) rfl (by kernel_rfl) (by intro N x; kernel_rfl)
def K40 : CTab := fun f svs => bif f.beq 40 then some c40 else K60 f svs
theorem gk40 : GoodK TBEn K40 := by
  intro f svs c h
  unfold K40 at h
  cases hf : f.beq 40 with
  | false => rw [hf] at h; exact gk60 f svs c h
  | true =>
    obtain rfl := Nat.eq_of_beq_eq_true hf
    rw [hf, cond_true] at h
    obtain rfl := Option.some.inj h
    exact ⟨gc40, by kernel_rfl⟩
def h52 (t : Nat) : Option Hn :=
  bif t.beq 5 then some (.parts [some (.int .i64), some (.int .i64), none]) else bif t.beq 9 then some (.ty (.pair (.int .i64) (.pair (.int .i64) (.int .i64)))) else none
def a52 (i : Nat) : Option Shape :=
  bif i.beq 10 then some ⟨[(7, (.ty (.int .u64))), (20, (.ty (.int .i64)))], [], [], []⟩ else none
def s52 : Sg := ⟨[(.ty (.int .i64)), (.ty (.int .u32))], [], ⟨[(0, (.ty (.int .i64)))], [], [], []⟩⟩
def f52 (N : Nat) (x : s52.inp) : Option s52.res := fnS N K40 t52 ⟨h52, a52⟩ s52 x
def c52 : Ctr := ⟨s52, f52⟩
theorem gc52 : GoodC TBEn 52 c52 := good2 (T := TBEn) (f := 52) (K := K40) (c := c52) (F := t52) (nt := ⟨h52, a52⟩) noSpEn gk40 (by kernel_rfl) rfl (by kernel_rfl) (by kernel_rfl) rfl (by kernel_rfl) (by intro N x; kernel_rfl)
def K52 : CTab := fun f svs => bif f.beq 52 then some c52 else K40 f svs
theorem gk52 : GoodK TBEn K52 := by
  intro f svs c h
  unfold K52 at h
  cases hf : f.beq 52 with
  | false => rw [hf] at h; exact gk40 f svs c h
  | true =>
    obtain rfl := Nat.eq_of_beq_eq_true hf
    rw [hf, cond_true] at h
    obtain rfl := Option.some.inj h
    exact ⟨gc52, by kernel_rfl⟩
def h53 (t : Nat) : Option Hn :=
  bif t.beq 6 then some (.ty (.arr 8 (.int .i64))) else bif t.beq 41 then some (.ty (.arr 8 (.int .i64))) else none
def a53 (i : Nat) : Option Shape :=
  bif i.beq 5 then some ⟨[(14, (.ty .bool))], [], [], []⟩ else bif i.beq 8 then some ⟨[(23, (.ty .bool))], [], [], []⟩ else bif i.beq 11 then some ⟨[(32, (.ty .bool))], [], [], []⟩ else none
def s53 : Sg := ⟨[(.ty (.pair (.int .u32) (.pair (.int .i64) (.pair (.int .i64) (.pair (.int .i64) (.pair (.int .u32) (.int .u32)))))))], [], ⟨[(0, (.tup [(.ty (.int .i64)), (.ty (.int .i64))]))], [], [], []⟩⟩
def f53 (N : Nat) (x : s53.inp) : Option s53.res := fnS N K52 t53 ⟨h53, a53⟩ s53 x
def c53 : Ctr := ⟨s53, f53⟩
theorem gc53 : GoodC TBEn 53 c53 := good2 (T := TBEn) (f := 53) (K := K52) (c := c53) (F := t53) (nt := ⟨h53, a53⟩) noSpEn gk52 (by kernel_rfl) rfl (by kernel_rfl) (by kernel_rfl) rfl (by kernel_rfl) (by intro N x; kernel_rfl)
def K53 : CTab := fun f svs => bif f.beq 53 then some c53 else K52 f svs
theorem gk53 : GoodK TBEn K53 := by
  intro f svs c h
  unfold K53 at h
  cases hf : f.beq 53 with
  | false => rw [hf] at h; exact gk52 f svs c h
  | true =>
    obtain rfl := Nat.eq_of_beq_eq_true hf
    rw [hf, cond_true] at h
    obtain rfl := Option.some.inj h
    exact ⟨gc53, by kernel_rfl⟩
def h54 (t : Nat) : Option Hn :=
  none
def a54 (i : Nat) : Option Shape :=
  bif i.beq 6 then some ⟨[(11, (.ty .bool))], [], [], []⟩ else bif i.beq 9 then some ⟨[(22, (.ty .bool))], [], [], []⟩ else bif i.beq 12 then some ⟨[(33, (.ty .bool))], [], [], []⟩ else none
def s54 : Sg := ⟨[(.ty (.pair (.int .u32) (.pair (.int .i64) (.pair (.int .i64) (.pair (.int .i64) (.pair (.int .u32) (.int .u32)))))))], [], ⟨[(0, (.tup [(.ty (.int .i64)), (.ty (.int .i64))]))], [], [], []⟩⟩
def f54 (N : Nat) (x : s54.inp) : Option s54.res := fnS N K53 t54 ⟨h54, a54⟩ s54 x
def c54 : Ctr := ⟨s54, f54⟩
theorem gc54 : GoodC TBEn 54 c54 := good2 (T := TBEn) (f := 54) (K := K53) (c := c54) (F := t54) (nt := ⟨h54, a54⟩) noSpEn gk53 (by kernel_rfl) rfl (by kernel_rfl) (by kernel_rfl) rfl (by kernel_rfl) (by intro N x; kernel_rfl)
def K54 : CTab := fun f svs => bif f.beq 54 then some c54 else K53 f svs
theorem gk54 : GoodK TBEn K54 := by
  intro f svs c h
  unfold K54 at h
  cases hf : f.beq 54 with
  | false => rw [hf] at h; exact gk53 f svs c h
  | true =>
    obtain rfl := Nat.eq_of_beq_eq_true hf
    rw [hf, cond_true] at h
    obtain rfl := Option.some.inj h
    exact ⟨gc54, by kernel_rfl⟩
def h55 (t : Nat) : Option Hn :=
  bif t.beq 0 then some (.ty (.arr 8 (.int .i64))) else bif t.beq 1 then some (.ty (.arr 8 (.int .i64))) else bif t.beq 2 then some (.ty (.arr 8 (.int .i64))) else bif t.beq 3 then some (.ty (.arr 8 (.int .i64))) else none
def a55 (i : Nat) : Option Shape :=
  none
def s55 : Sg := ⟨[], [], ⟨[(0, (.tup [(.ty (.arr 8 (.int .i64))), (.ty (.arr 8 (.int .i64)))]))], [], [], []⟩⟩
def f55 (N : Nat) (x : s55.inp) : Option s55.res := fnS N K54 t55 ⟨h55, a55⟩ s55 x
def c55 : Ctr := ⟨s55, f55⟩
theorem gc55 : GoodC TBEn 55 c55 := good2 (T := TBEn) (f := 55) (K := K54) (c := c55) (F := t55) (nt := ⟨h55, a55⟩) noSpEn gk54 (by kernel_rfl) rfl (by kernel_rfl) (by kernel_rfl) rfl (by kernel_rfl) (by intro N x; kernel_rfl)
def K55 : CTab := fun f svs => bif f.beq 55 then some c55 else K54 f svs
theorem gk55 : GoodK TBEn K55 := by
  intro f svs c h
  unfold K55 at h
  cases hf : f.beq 55 with
  | false => rw [hf] at h; exact gk54 f svs c h
  | true =>
    obtain rfl := Nat.eq_of_beq_eq_true hf
    rw [hf, cond_true] at h
    obtain rfl := Option.some.inj h
    exact ⟨gc55, by kernel_rfl⟩
def h56 (t : Nat) : Option Hn :=
  none
def a56 (i : Nat) : Option Shape :=
  none
def s56 : Sg := ⟨[(.ty (.pair (.int .u32) (.pair (.int .i64) (.pair (.int .i64) (.pair (.int .i64) (.pair (.int .u32) (.int .u32))))))), (.ty (.arr 8 (.int .i64))), (.ty (.arr 8 (.int .i64)))], [], ⟨[(0, (.ty (.int .i64)))], [], [], []⟩⟩
def f56 (N : Nat) (x : s56.inp) : Option s56.res := fnS N K55 t56 ⟨h56, a56⟩ s56 x
def c56 : Ctr := ⟨s56, f56⟩
theorem gc56 : GoodC TBEn 56 c56 := good2 (T := TBEn) (f := 56) (K := K55) (c := c56) (F := t56) (nt := ⟨h56, a56⟩) noSpEn gk55 (by kernel_rfl) rfl (by kernel_rfl) (by kernel_rfl) rfl (by kernel_rfl) (by intro N x; kernel_rfl)
def K56 : CTab := fun f svs => bif f.beq 56 then some c56 else K55 f svs
theorem gk56 : GoodK TBEn K56 := by
  intro f svs c h
  unfold K56 at h
  cases hf : f.beq 56 with
  | false => rw [hf] at h; exact gk55 f svs c h
  | true =>
    obtain rfl := Nat.eq_of_beq_eq_true hf
    rw [hf, cond_true] at h
    obtain rfl := Option.some.inj h
    exact ⟨gc56, by kernel_rfl⟩
def h57 (t : Nat) : Option Hn :=
  bif t.beq 0 then some (.ty (.arr 8 (.int .i64))) else bif t.beq 1 then some (.ty (.arr 8 (.int .i64))) else bif t.beq 2 then some (.ty (.arr 8 (.int .i64))) else bif t.beq 3 then some (.ty (.arr 8 (.int .i64))) else none
def a57 (i : Nat) : Option Shape :=
  none
def s57 : Sg := ⟨[], [], ⟨[(0, (.tup [(.ty (.arr 8 (.int .i64))), (.ty (.arr 8 (.int .i64)))]))], [], [], []⟩⟩
def f57 (N : Nat) (x : s57.inp) : Option s57.res := fnS N K56 t57 ⟨h57, a57⟩ s57 x
def c57 : Ctr := ⟨s57, f57⟩
theorem gc57 : GoodC TBEn 57 c57 := good2 (T := TBEn) (f := 57) (K := K56) (c := c57) (F := t57) (nt := ⟨h57, a57⟩) noSpEn gk56 (by kernel_rfl) rfl (by kernel_rfl) (by kernel_rfl) rfl (by kernel_rfl) (by intro N x; kernel_rfl)
def K57 : CTab := fun f svs => bif f.beq 57 then some c57 else K56 f svs
theorem gk57 : GoodK TBEn K57 := by
  intro f svs c h
  unfold K57 at h
  cases hf : f.beq 57 with
  | false => rw [hf] at h; exact gk56 f svs c h
  | true =>
    obtain rfl := Nat.eq_of_beq_eq_true hf
    rw [hf, cond_true] at h
    obtain rfl := Option.some.inj h
    exact ⟨gc57, by kernel_rfl⟩
def h58 (t : Nat) : Option Hn :=
  bif t.beq 2 then some (.ty (.pair (.int .i64) (.pair (.int .i64) (.pair (.int .i64) (.pair (.int .i64) (.pair (.int .i64) (.pair .bool (.pair .bool (.pair (.int .i64) (.int .i64)))))))))) else bif t.beq 6 then some (.ty (.pair (.int .i64) (.pair (.int .i64) (.pair (.int .i64) (.pair (.int .i64) (.pair (.int .i64) (.pair .bool (.pair .bool (.pair (.int .i64) (.int .i64)))))))))) else bif t.beq 13 then some (.ty (.pair (.int .i64) (.pair (.int .i64) (.pair (.int .i64) (.pair (.int .i64) (.pair (.int .i64) (.pair .bool (.pair .bool (.pair (.int .i64) (.int .i64)))))))))) else none
def a58 (i : Nat) : Option Shape :=
  none
def s58 : Sg := ⟨[(.ty (.int .u32))], [], ⟨[(0, (.ty (.pair (.int .i64) (.pair (.int .i64) (.pair (.int .i64) (.pair (.int .i64) (.pair (.int .i64) (.pair .bool (.pair .bool (.pair (.int .i64) (.int .i64)))))))))))], [], [], []⟩⟩
def f58 (N : Nat) (x : s58.inp) : Option s58.res := fnS N K57 t58 ⟨h58, a58⟩ s58 x
def c58 : Ctr := ⟨s58, f58⟩
theorem gc58 : GoodC TBEn 58 c58 := good2 (T := TBEn) (f := 58) (K := K57) (c := c58) (F := t58) (nt := ⟨h58, a58⟩) noSpEn gk57 (by kernel_rfl) rfl (by kernel_rfl) (by kernel_rfl) rfl (by kernel_rfl) (by intro N x; kernel_rfl)
def K58 : CTab := fun f svs => bif f.beq 58 then some c58 else K57 f svs
theorem gk58 : GoodK TBEn K58 := by
  intro f svs c h
  unfold K58 at h
  cases hf : f.beq 58 with
  | false => rw [hf] at h; exact gk57 f svs c h
  | true =>
    obtain rfl := Nat.eq_of_beq_eq_true hf
    rw [hf, cond_true] at h
    obtain rfl := Option.some.inj h
    exact ⟨gc58, by kernel_rfl⟩
def h59 (t : Nat) : Option Hn :=
  none
def a59 (i : Nat) : Option Shape :=
  bif i.beq 4 then some ⟨[(3, (.ty (.int .i64)))], [], [], []⟩ else bif i.beq 31 then some ⟨[(32, (.ty .bool))], [], [], []⟩ else none
def s59 : Sg := ⟨[(.ty (.pair (.int .u32) (.pair (.int .i64) (.pair (.int .i64) (.pair (.int .i64) (.pair (.int .u32) (.int .u32)))))))], [], ⟨[(0, (.ty (.int .i64)))], [], [], []⟩⟩
def f59 (N : Nat) (x : s59.inp) : Option s59.res := fnS N K58 t59 ⟨h59, a59⟩ s59 x
def c59 : Ctr := ⟨s59, f59⟩
theorem gc59 : GoodC TBEn 59 c59 := good2 (T := TBEn) (f := 59) (K := K58) (c := c59) (F := t59) (nt := ⟨h59, a59⟩) noSpEn gk58 (by kernel_rfl) rfl (by kernel_rfl) (by kernel_rfl) rfl (by kernel_rfl) (by intro N x; kernel_rfl)
def K59 : CTab := fun f svs => bif f.beq 59 then some c59 else K58 f svs
theorem gk59 : GoodK TBEn K59 := by
  intro f svs c h
  unfold K59 at h
  cases hf : f.beq 59 with
  | false => rw [hf] at h; exact gk58 f svs c h
  | true =>
    obtain rfl := Nat.eq_of_beq_eq_true hf
    rw [hf, cond_true] at h
    obtain rfl := Option.some.inj h
    exact ⟨gc59, by kernel_rfl⟩
def h39 (t : Nat) : Option Hn :=
  bif t.beq 2 then some (.ty (.pair (.int .i64) (.pair (.int .i64) (.pair (.int .i64) (.pair (.int .i64) (.pair (.int .i64) (.pair .bool (.pair .bool (.pair (.int .i64) (.int .i64)))))))))) else bif t.beq 3 then some (.ty (.pair (.int .i64) (.pair (.int .i64) (.pair (.int .i64) (.pair (.int .i64) (.pair (.int .i64) (.pair .bool (.pair .bool (.pair (.int .i64) (.int .i64)))))))))) else bif t.beq 4 then some (.ty (.arr 8 (.int .i64))) else bif t.beq 5 then some (.ty (.arr 8 (.int .i64))) else bif t.beq 6 then some (.ty (.arr 8 (.int .i64))) else bif t.beq 7 then some (.ty (.arr 8 (.int .i64))) else bif t.beq 8 then some (.ty (.arr 8 (.int .i64))) else bif t.beq 15 then some (.ty (.pair (.int .i64) (.pair (.int .i64) (.pair (.int .i64) (.pair (.int .i64) (.pair (.int .i64) (.pair .bool (.pair .bool (.pair (.int .i64) (.int .i64)))))))))) else bif t.beq 52 then some (.ty (.arr 8 (.int .i64))) else none
def a39 (i : Nat) : Option Shape :=
  bif i.beq 4 then some ⟨[], [(2, (.one (.ty (.pair (.int .i64) (.pair (.int .i64) (.pair (.int .i64) (.pair (.int .i64) (.pair (.int .i64) (.pair .bool (.pair .bool (.pair (.int .i64) (.int .i64))))))))))))], [], []⟩ else bif i.beq 44 then some ⟨[], [(2, (.one (.ty (.pair (.int .i64) (.pair (.int .i64) (.pair (.int .i64) (.pair (.int .i64) (.pair (.int .i64) (.pair .bool (.pair .bool (.pair (.int .i64) (.int .i64))))))))))))], [], []⟩ else none
def s39 : Sg := ⟨[(.ty (.pair (.int .u32) (.pair (.int .i64) (.pair (.int .i64) (.pair (.int .i64) (.pair (.int .u32) (.int .u32)))))))], [], ⟨[(0, (.ty (.pair (.int .i64) (.pair (.int .i64) (.pair (.int .i64) (.pair (.int .i64) (.pair (.int .i64) (.pair .bool (.pair .bool (.pair (.int .i64) (.int .i64)))))))))))], [], [], []⟩⟩
def f39 (N : Nat) (x : s39.inp) : Option s39.res := fnS N K59 t39 ⟨h39, a39⟩ s39 x
def c39 : Ctr := ⟨s39, f39⟩
theorem gc39 : GoodC TBEn 39 c39 := good2 (T := TBEn) (f := 39) (K := K59) (c := c39) (F := t39) (nt := ⟨h39, a39⟩) noSpEn gk59 (by kernel_rfl) rfl (by kernel_rfl) (by kernel_rfl) rfl (by kernel_rfl) (by intro N x; kernel_rfl)
def K39 : CTab := fun f svs => bif f.beq 39 then some c39 else K59 f svs
theorem gk39 : GoodK TBEn K39 := by
  intro f svs c h
  unfold K39 at h
  cases hf : f.beq 39 with
  | false => rw [hf] at h; exact gk59 f svs c h
  | true =>
    obtain rfl := Nat.eq_of_beq_eq_true hf
    rw [hf, cond_true] at h
    obtain rfl := Option.some.inj h
    exact ⟨gc39, by kernel_rfl⟩
def h12 (t : Nat) : Option Hn :=
  bif t.beq 2 then some (.ty (.pair (.int .i64) (.pair (.int .i64) (.pair (.int .i64) (.pair (.int .i64) (.pair (.int .i64) (.pair .bool (.pair .bool (.pair (.int .i64) (.int .i64)))))))))) else bif t.beq 4 then some (.ty (.pair (.int .i64) (.pair (.int .i64) (.pair (.int .i64) (.pair (.int .i64) (.pair (.int .i64) (.pair .bool (.pair .bool (.pair (.int .i64) (.int .i64)))))))))) else bif t.beq 11 then some (.ty (.pair (.int .i64) (.pair (.int .i64) (.pair (.int .i64) (.pair (.int .i64) (.pair (.int .i64) (.pair .bool (.pair .bool (.pair (.int .i64) (.int .i64)))))))))) else none
def a12 (i : Nat) : Option Shape :=
  none
def s12 : Sg := ⟨[(.ty (.int .u32))], [], ⟨[(0, (.tup [(.ty (.pair (.int .i64) (.pair (.int .i64) (.pair (.int .i64) (.pair (.int .i64) (.pair (.int .i64) (.pair .bool (.pair .bool (.pair (.int .i64) (.int .i64)))))))))), (.ty (.int .i64))]))], [], [], []⟩⟩
def f12 (N : Nat) (x : s12.inp) : Option s12.res := fnS N K39 t12 ⟨h12, a12⟩ s12 x
def c12 : Ctr := ⟨s12, f12⟩
theorem gc12 : GoodC TBEn 12 c12 := good2 (T := TBEn) (f := 12) (K := K39) (c := c12) (F := t12) (nt := ⟨h12, a12⟩) noSpEn gk39 (by kernel_rfl) rfl (by kernel_rfl) (by kernel_rfl) rfl (by kernel_rfl) (by intro N x; kernel_rfl)
def K12 : CTab := fun f svs => bif f.beq 12 then some c12 else K39 f svs
theorem gk12 : GoodK TBEn K12 := by
  intro f svs c h
  unfold K12 at h
  cases hf : f.beq 12 with
  | false => rw [hf] at h; exact gk39 f svs c h
  | true =>
    obtain rfl := Nat.eq_of_beq_eq_true hf
    rw [hf, cond_true] at h
    obtain rfl := Option.some.inj h
    exact ⟨gc12, by kernel_rfl⟩
def h16 (t : Nat) : Option Hn :=
  bif t.beq 4 then some (.ty (.pair (.int .i64) (.pair (.int .i64) (.pair (.int .i64) (.pair (.int .i64) (.pair (.int .i64) (.pair .bool (.pair .bool (.pair (.int .i64) (.int .i64)))))))))) else bif t.beq 19 then some (.ty (.pair (.int .i64) (.pair (.int .i64) (.pair (.int .i64) (.pair (.int .i64) (.pair (.int .i64) (.pair .bool (.pair .bool (.pair (.int .i64) (.int .i64)))))))))) else none
def a16 (i : Nat) : Option Shape :=
  bif i.beq 4 then some ⟨[(0, (.sla 1 .any)), (3, (.sla 2 .yes))], [], [], [⟨false, (.many (.int .u8))⟩, ⟨true, (.many (.pair (.int .i64) (.pair (.int .i64) (.pair (.int .i64) (.pair (.int .i64) (.pair (.int .i64) (.pair .bool (.pair .bool (.pair (.int .i64) (.int .i64))))))))))⟩]⟩ else none
def s16 : Sg := ⟨[(.sla 0 .any)], [⟨false, (.many (.int .u8))⟩], ⟨[(0, (.sla 1 .yes))], [], [], [⟨true, (.many (.pair (.int .i64) (.pair (.int .i64) (.pair (.int .i64) (.pair (.int .i64) (.pair (.int .i64) (.pair .bool (.pair .bool (.pair (.int .i64) (.int .i64))))))))))⟩]⟩⟩
def f16 (N : Nat) (x : s16.inp) : Option s16.res := fnS N K12 t16 ⟨h16, a16⟩ s16 x
def c16 : Ctr := ⟨s16, f16⟩
theorem gc16 : GoodC TBEn 16 c16 := good3 (T := TBEn) (f := 16) (K := K12) (c := c16) (F := t16) (nt := ⟨h16, a16⟩) noSpEn gk12 (by kernel_rfl) rfl (by kernel_rfl) (by kernel_rfl) (by intro N x; kernel_rfl)
def K16 : CTab := fun f svs => bif f.beq 16 then some c16 else K12 f svs
theorem gk16 : GoodK TBEn K16 := by
  intro f svs c h
  unfold K16 at h
  cases hf : f.beq 16 with
  | false => rw [hf] at h; exact gk12 f svs c h
  | true =>
    obtain rfl := Nat.eq_of_beq_eq_true hf
    rw [hf, cond_true] at h
    obtain rfl := Option.some.inj h
    exact ⟨gc16, by kernel_rfl⟩
def h7 (t : Nat) : Option Hn :=
  bif t.beq 6 then some (.ty (.pair (.int .i64) (.pair (.int .i64) (.pair (.int .i64) (.pair (.int .i64) (.pair (.int .i64) (.pair .bool (.pair .bool (.pair (.int .i64) (.int .i64)))))))))) else bif t.beq 11 then some (.ty (.pair (.int .i64) (.pair (.int .i64) (.pair (.int .i64) (.pair (.int .i64) (.pair (.int .i64) (.pair .bool (.pair .bool (.pair (.int .i64) (.int .i64)))))))))) else bif t.beq 26 then some (.ty (.pair (.int .i64) (.pair (.int .i64) (.pair (.int .i64) (.pair (.int .i64) (.pair (.int .i64) (.pair .bool (.pair .bool (.pair (.int .i64) (.int .i64)))))))))) else bif t.beq 30 then some (.ty (.int .u8)) else none
def a7 (i : Nat) : Option Shape :=
  bif i.beq 3 then some ⟨[(0, (.ty .bool))], [], [], []⟩ else none
def s7 : Sg := ⟨[], [], ⟨[(0, (.ty .bool))], [], [], []⟩⟩
def f7 (N : Nat) (x : s7.inp) : Option s7.res := fnS N K16 t7 ⟨h7, a7⟩ s7 x
def c7 : Ctr := ⟨s7, f7⟩
theorem gc7 : GoodC TBEn 7 c7 := good2 (T := TBEn) (f := 7) (K := K16) (c := c7) (F := t7) (nt := ⟨h7, a7⟩) noSpEn gk16 (by kernel_rfl) rfl (by kernel_rfl) (by kernel_rfl) rfl (by kernel_rfl) (by intro N x; kernel_rfl)
def K7 : CTab := fun f svs => bif f.beq 7 then some c7 else K16 f svs
theorem gk7 : GoodK TBEn K7 := by
  intro f svs c h
  unfold K7 at h
  cases hf : f.beq 7 with
  | false => rw [hf] at h; exact gk16 f svs c h
  | true =>
    obtain rfl := Nat.eq_of_beq_eq_true hf
    rw [hf, cond_true] at h
    obtain rfl := Option.some.inj h
    exact ⟨gc7, by kernel_rfl⟩
def h25 (t : Nat) : Option Hn :=
  bif t.beq 5 then some (.ty (.int .i64)) else none
def a25 (i : Nat) : Option Shape :=
  bif i.beq 9 then some ⟨[(0, (.ty (.int .i64))), (4, (.ty (.int .i64)))], [], [], []⟩ else none
def s25 : Sg := ⟨[(.ty (.int .i64))], [], ⟨[(0, (.ty (.int .i64)))], [], [], []⟩⟩
def f25 (N : Nat) (x : s25.inp) : Option s25.res := fnS N K7 t25 ⟨h25, a25⟩ s25 x
def c25 : Ctr := ⟨s25, f25⟩
theorem gc25 : GoodC TBEn 25 c25 := good2 (T := TBEn) (f := 25) (K := K7) (c := c25) (F := t25) (nt := ⟨h25, a25⟩) noSpEn gk7 (by kernel_rfl) rfl (by kernel_rfl) (by kernel_rfl) rfl (by kernel_rfl) (by intro N x; kernel_rfl)
def K25 : CTab := fun f svs => bif f.beq 25 then some c25 else K7 f svs
theorem gk25 : GoodK TBEn K25 := by
  intro f svs c h
  unfold K25 at h
  cases hf : f.beq 25 with
  | false => rw [hf] at h; exact gk7 f svs c h
  | true =>
    obtain rfl := Nat.eq_of_beq_eq_true hf
    rw [hf, cond_true] at h
    obtain rfl := Option.some.inj h
    exact ⟨gc25, by kernel_rfl⟩
def h26 (t : Nat) : Option Hn :=
  none
def a26 (i : Nat) : Option Shape :=
  bif i.beq 2 then some ⟨[(2, (.ty .bool))], [], [], []⟩ else none
def s26 : Sg := ⟨[(.ty (.int .i64))], [], ⟨[(0, (.ty .bool))], [], [], []⟩⟩
def f26 (N : Nat) (x : s26.inp) : Option s26.res := fnS N K25 t26 ⟨h26, a26⟩ s26 x
def c26 : Ctr := ⟨s26, f26⟩
theorem gc26 : GoodC TBEn 26 c26 := good2 (T := TBEn) (f := 26) (K := K25) (c := c26) (F := t26) (nt := ⟨h26, a26⟩) noSpEn gk25 (by kernel_rfl) rfl (by kernel_rfl) (by kernel_rfl) rfl (by kernel_rfl) (by intro N x; kernel_rfl)
def K26 : CTab := fun f svs => bif f.beq 26 then some c26 else K25 f svs
theorem gk26 : GoodK TBEn K26 := by
  intro f svs c h
  unfold K26 at h
  cases hf : f.beq 26 with
  | false => rw [hf] at h; exact gk25 f svs c h
  | true =>
    obtain rfl := Nat.eq_of_beq_eq_true hf
    rw [hf, cond_true] at h
    obtain rfl := Option.some.inj h
    exact ⟨gc26, by kernel_rfl⟩
def h67 (t : Nat) : Option Hn :=
  bif t.beq 1 then some (.ty .str) else none
def a67 (i : Nat) : Option Shape :=
  none
def s67 : Sg := ⟨[], [], ⟨[(0, (.sla 0 .yes))], [], [], [⟨true, (.many .str)⟩]⟩⟩
def f67 (N : Nat) (x : s67.inp) : Option s67.res := fnS N K26 t67 ⟨h67, a67⟩ s67 x
def c67 : Ctr := ⟨s67, f67⟩
theorem gc67 : GoodC TBEn 67 c67 := good3 (T := TBEn) (f := 67) (K := K26) (c := c67) (F := t67) (nt := ⟨h67, a67⟩) noSpEn gk26 (by kernel_rfl) rfl (by kernel_rfl) (by kernel_rfl) (by intro N x; kernel_rfl)
def K67 : CTab := fun f svs => bif f.beq 67 then some c67 else K26 f svs
theorem gk67 : GoodK TBEn K67 := by
  intro f svs c h
  unfold K67 at h
  cases hf : f.beq 67 with
  | false => rw [hf] at h; exact gk26 f svs c h
  | true =>
    obtain rfl := Nat.eq_of_beq_eq_true hf
    rw [hf, cond_true] at h
    obtain rfl := Option.some.inj h
    exact ⟨gc67, by kernel_rfl⟩
def h48 (t : Nat) : Option Hn :=
  none
def a48 (i : Nat) : Option Shape :=
  bif i.beq 3 then some ⟨[(12, (.ty .bool))], [], [], []⟩ else none
def s48 : Sg := ⟨[(.ty (.int .i64))], [], ⟨[(0, (.ty .str))], [], [], []⟩⟩
def f48 (N : Nat) (x : s48.inp) : Option s48.res := fnS N K67 t48 ⟨h48, a48⟩ s48 x
def c48 : Ctr := ⟨s48, f48⟩
theorem gc48 : GoodC TBEn 48 c48 := good2 (T := TBEn) (f := 48) (K := K67) (c := c48) (F := t48) (nt := ⟨h48, a48⟩) noSpEn gk67 (by kernel_rfl) rfl (by kernel_rfl) (by kernel_rfl) rfl (by kernel_rfl) (by intro N x; kernel_rfl)
def K48 : CTab := fun f svs => bif f.beq 48 then some c48 else K67 f svs
theorem gk48 : GoodK TBEn K48 := by
  intro f svs c h
  unfold K48 at h
  cases hf : f.beq 48 with
  | false => rw [hf] at h; exact gk67 f svs c h
  | true =>
    obtain rfl := Nat.eq_of_beq_eq_true hf
    rw [hf, cond_true] at h
    obtain rfl := Option.some.inj h
    exact ⟨gc48, by kernel_rfl⟩
def h27 (t : Nat) : Option Hn :=
  none
def a27 (i : Nat) : Option Shape :=
  bif i.beq 2 then some ⟨[(2, (.ty .bool))], [], [], []⟩ else none
def s27 : Sg := ⟨[(.ty (.int .i64))], [], ⟨[(0, (.ty .bool))], [], [], []⟩⟩
def f27 (N : Nat) (x : s27.inp) : Option s27.res := fnS N K48 t27 ⟨h27, a27⟩ s27 x
def c27 : Ctr := ⟨s27, f27⟩
theorem gc27 : GoodC TBEn 27 c27 := good2 (T := TBEn) (f := 27) (K := K48) (c := c27) (F := t27) (nt := ⟨h27, a27⟩) noSpEn gk48 (by kernel_rfl) rfl (by kernel_rfl) (by kernel_rfl) rfl (by kernel_rfl) (by intro N x; kernel_rfl)
def K27 : CTab := fun f svs => bif f.beq 27 then some c27 else K48 f svs
theorem gk27 : GoodK TBEn K27 := by
  intro f svs c h
  unfold K27 at h
  cases hf : f.beq 27 with
  | false => rw [hf] at h; exact gk48 f svs c h
  | true =>
    obtain rfl := Nat.eq_of_beq_eq_true hf
    rw [hf, cond_true] at h
    obtain rfl := Option.some.inj h
    exact ⟨gc27, by kernel_rfl⟩
def h28 (t : Nat) : Option Hn :=
  none
def a28 (i : Nat) : Option Shape :=
  bif i.beq 2 then some ⟨[(2, (.ty .bool))], [], [], []⟩ else none
def s28 : Sg := ⟨[(.ty (.int .i64))], [], ⟨[(0, (.ty .bool))], [], [], []⟩⟩
def f28 (N : Nat) (x : s28.inp) : Option s28.res := fnS N K27 t28 ⟨h28, a28⟩ s28 x
def c28 : Ctr := ⟨s28, f28⟩
theorem gc28 : GoodC TBEn 28 c28 := good2 (T := TBEn) (f := 28) (K := K27) (c := c28) (F := t28) (nt := ⟨h28, a28⟩) noSpEn gk27 (by kernel_rfl) rfl (by kernel_rfl) (by kernel_rfl) rfl (by kernel_rfl) (by intro N x; kernel_rfl)
def K28 : CTab := fun f svs => bif f.beq 28 then some c28 else K27 f svs
theorem gk28 : GoodK TBEn K28 := by
  intro f svs c h
  unfold K28 at h
  cases hf : f.beq 28 with
  | false => rw [hf] at h; exact gk27 f svs c h
  | true =>
    obtain rfl := Nat.eq_of_beq_eq_true hf
    rw [hf, cond_true] at h
    obtain rfl := Option.some.inj h
    exact ⟨gc28, by kernel_rfl⟩
def h29 (t : Nat) : Option Hn :=
  none
def a29 (i : Nat) : Option Shape :=
  bif i.beq 3 then some ⟨[(15, (.ty .bool))], [], [], []⟩ else bif i.beq 7 then some ⟨[(25, (.ty .bool))], [], [], []⟩ else none
def s29 : Sg := ⟨[(.ty (.int .i64))], [], ⟨[(0, (.ty (.int .i64)))], [], [], []⟩⟩
def f29 (N : Nat) (x : s29.inp) : Option s29.res := fnS N K28 t29 ⟨h29, a29⟩ s29 x
def c29 : Ctr := ⟨s29, f29⟩
theorem gc29 : GoodC TBEn 29 c29 := good2 (T := TBEn) (f := 29) (K := K28) (c := c29) (F := t29) (nt := ⟨h29, a29⟩) noSpEn gk28 (by kernel_rfl) rfl (by kernel_rfl) (by kernel_rfl) rfl (by kernel_rfl) (by intro N x; kernel_rfl)
def K29 : CTab := fun f svs => bif f.beq 29 then some c29 else K28 f svs
theorem gk29 : GoodK TBEn K29 := by
  intro f svs c h
  unfold K29 at h
  cases hf : f.beq 29 with
  | false => rw [hf] at h; exact gk28 f svs c h
  | true =>
    obtain rfl := Nat.eq_of_beq_eq_true hf
    rw [hf, cond_true] at h
    obtain rfl := Option.some.inj h
    exact ⟨gc29, by kernel_rfl⟩
def h30 (t : Nat) : Option Hn :=
  none
def a30 (i : Nat) : Option Shape :=
  bif i.beq 21 then some ⟨[(16, (.ty .bool))], [], [], []⟩ else none
def s30 : Sg := ⟨[(.ty (.int .i64))], [], ⟨[(0, (.ty (.int .i64)))], [], [], []⟩⟩
def f30 (N : Nat) (x : s30.inp) : Option s30.res := fnS N K29 t30 ⟨h30, a30⟩ s30 x
def c30 : Ctr := ⟨s30, f30⟩
theorem gc30 : GoodC TBEn 30 c30 := good2 (T := TBEn) (f := 30) (K := K29) (c := c30) (F := t30) (nt := ⟨h30, a30⟩) noSpEn gk29 (by kernel_rfl) rfl (by kernel_rfl) (by kernel_rfl) rfl (by kernel_rfl) (by intro N x; kernel_rfl)
def K30 : CTab := fun f svs => bif f.beq 30 then some c30 else K29 f svs
theorem gk30 : GoodK TBEn K30 := by
  intro f svs c h
  unfold K30 at h
  cases hf : f.beq 30 with
  | false => rw [hf] at h; exact gk29 f svs c h
  | true =>
    obtain rfl := Nat.eq_of_beq_eq_true hf
    rw [hf, cond_true] at h
    obtain rfl := Option.some.inj h
    exact ⟨gc30, by kernel_rfl⟩
def h31 (t : Nat) : Option Hn :=
  none
def a31 (i : Nat) : Option Shape :=
  bif i.beq 4 then some ⟨[(6, (.ty .bool))], [], [], []⟩ else bif i.beq 8 then some ⟨[(4, (.ty .bool))], [], [], []⟩ else bif i.beq 11 then some ⟨[(4, (.ty .bool))], [], [], []⟩ else bif i.beq 14 then some ⟨[(4, (.ty .bool))], [], [], []⟩ else bif i.beq 17 then some ⟨[(4, (.ty .bool))], [], [], []⟩ else none
def s31 : Sg := ⟨[(.ty (.int .i64)), (.ty (.int .i64))], [], ⟨[(0, (.ty .bool))], [], [], []⟩⟩
def f31 (N : Nat) (x : s31.inp) : Option s31.res := fnS N K30 t31 ⟨h31, a31⟩ s31 x
def c31 : Ctr := ⟨s31, f31⟩
theorem gc31 : GoodC TBEn 31 c31 := good2 (T := TBEn) (f := 31) (K := K30) (c := c31) (F := t31) (nt := ⟨h31, a31⟩) noSpEn gk30 (by kernel_rfl) rfl (by kernel_rfl) (by kernel_rfl) rfl (by kernel_rfl) (by intro N x; kernel_rfl)
def K31 : CTab := fun f svs => bif f.beq 31 then some c31 else K30 f svs
theorem gk31 : GoodK TBEn K31 := by
  intro f svs c h
  unfold K31 at h
  cases hf : f.beq 31 with
  | false => rw [hf] at h; exact gk30 f svs c h
  | true =>
    obtain rfl := Nat.eq_of_beq_eq_true hf
    rw [hf, cond_true] at h
    obtain rfl := Option.some.inj h
    exact ⟨gc31, by kernel_rfl⟩
def h9 (t : Nat) : Option Hn :=
  none
def a9 (i : Nat) : Option Shape :=
  bif i.beq 3 then some ⟨[(40, (.ty .bool))], [], [], []⟩ else bif i.beq 7 then some ⟨[(83, (.ty .bool))], [], [], []⟩ else bif i.beq 13 then some ⟨[(90, (.ty .bool))], [], [], []⟩ else bif i.beq 16 then some ⟨[(103, (.ty .bool))], [], [], []⟩ else bif i.beq 19 then some ⟨[(116, (.ty .bool))], [], [], []⟩ else bif i.beq 22 then some ⟨[(128, (.ty .bool))], [], [], []⟩ else bif i.beq 30 then some ⟨[(2, (.ty .bool))], [], [], []⟩ else bif i.beq 33 then some ⟨[(2, (.ty .bool))], [], [], []⟩ else bif i.beq 34 then some ⟨[(2, (.ty .bool))], [], [], []⟩ else none
def s9 : Sg := ⟨[(.ty (.pair (.int .i64) (.pair (.int .i64) (.pair (.int .i64) (.pair (.int .i64) (.pair (.int .i64) (.pair .bool (.pair .bool (.pair (.int .i64) (.int .i64))))))))))], [], ⟨[(0, (.ty .bool))], [], [], []⟩⟩
def f9 (N : Nat) (x : s9.inp) : Option s9.res := fnS N K31 t9 ⟨h9, a9⟩ s9 x
def c9 : Ctr := ⟨s9, f9⟩
theorem gc9 : GoodC TBEn 9 c9 := good2 (T := TBEn) (f := 9) (K := K31) (c := c9) (F := t9) (nt := ⟨h9, a9⟩) noSpEn gk31 (by kernel_rfl) rfl (by kernel_rfl) (by kernel_rfl) rfl (by kernel_rfl) (by intro N x; kernel_rfl)
def K9 : CTab := fun f svs => bif f.beq 9 then some c9 else K31 f svs
theorem gk9 : GoodK TBEn K9 := by
  intro f svs c h
  unfold K9 at h
  cases hf : f.beq 9 with
  | false => rw [hf] at h; exact gk31 f svs c h
  | true =>
    obtain rfl := Nat.eq_of_beq_eq_true hf
    rw [hf, cond_true] at h
    obtain rfl := Option.some.inj h
    exact ⟨gc9, by kernel_rfl⟩
def h34 (t : Nat) : Option Hn :=
  none
def a34 (i : Nat) : Option Shape :=
  bif i.beq 31 then some ⟨[(39, (.ty .bool))], [], [], []⟩ else bif i.beq 37 then some ⟨[(48, (.ty .bool))], [], [], []⟩ else none
def s34 : Sg := ⟨[(.ty (.int .i64))], [], ⟨[(0, (.ty (.int .u32)))], [], [], []⟩⟩
def f34 (N : Nat) (x : s34.inp) : Option s34.res := fnS N K9 t34 ⟨h34, a34⟩ s34 x
def c34 : Ctr := ⟨s34, f34⟩
theorem gc34 : GoodC TBEn 34 c34 := good2 (T := TBEn) (f := 34) (K := K9) (c := c34) (F := t34) (nt := ⟨h34, a34⟩) noSpEn gk9 (by kernel_rfl) rfl (by kernel_rfl) (by kernel_rfl) rfl (by kernel_rfl) (by intro N x; kernel_rfl)
def K34 : CTab := fun f svs => bif f.beq 34 then some c34 else K9 f svs
theorem gk34 : GoodK TBEn K34 := by
  intro f svs c h
  unfold K34 at h
  cases hf : f.beq 34 with
  | false => rw [hf] at h; exact gk9 f svs c h
  | true =>
    obtain rfl := Nat.eq_of_beq_eq_true hf
    rw [hf, cond_true] at h
    obtain rfl := Option.some.inj h
    exact ⟨gc34, by kernel_rfl⟩
def h35 (t : Nat) : Option Hn :=
  bif t.beq 12 then some (.ty (.int .u32)) else none
def a35 (i : Nat) : Option Shape :=
  bif i.beq 15 then some ⟨[(27, (.ty .bool))], [], [], []⟩ else bif i.beq 27 then some ⟨[(42, (.ty .bool))], [], [], []⟩ else bif i.beq 33 then some ⟨[(44, (.ty .bool))], [], [], []⟩ else bif i.beq 42 then some ⟨[(49, (.ty .bool))], [], [], []⟩ else bif i.beq 47 then some ⟨[(52, (.ty .bool))], [], [], []⟩ else bif i.beq 52 then some ⟨[(55, (.ty .bool))], [], [], []⟩ else bif i.beq 57 then some ⟨[(58, (.ty .bool))], [], [], []⟩ else bif i.beq 74 then some ⟨[(67, (.ty .bool))], [], [], []⟩ else bif i.beq 79 then some ⟨[(70, (.ty .bool))], [], [], []⟩ else none
def s35 : Sg := ⟨[(.ty (.int .i64))], [], ⟨[(0, (.ty (.int .u32)))], [], [], []⟩⟩
def f35 (N : Nat) (x : s35.inp) : Option s35.res := fnS N K34 t35 ⟨h35, a35⟩ s35 x
def c35 : Ctr := ⟨s35, f35⟩
theorem gc35 : GoodC TBEn 35 c35 := good2 (T := TBEn) (f := 35) (K := K34) (c := c35) (F := t35) (nt := ⟨h35, a35⟩) noSpEn gk34 (by kernel_rfl) rfl (by kernel_rfl) (by kernel_rfl) rfl (by kernel_rfl) (by intro N x; kernel_rfl)
def K35 : CTab := fun f svs => bif f.beq 35 then some c35 else K34 f svs
theorem gk35 : GoodK TBEn K35 := by
  intro f svs c h
  unfold K35 at h
  cases hf : f.beq 35 with
  | false => rw [hf] at h; exact gk34 f svs c h
  | true =>
    obtain rfl := Nat.eq_of_beq_eq_true hf
    rw [hf, cond_true] at h
    obtain rfl := Option.some.inj h
    exact ⟨gc35, by kernel_rfl⟩
def h36 (t : Nat) : Option Hn :=
  none
def a36 (i : Nat) : Option Shape :=
  bif i.beq 2 then some ⟨[(2, (.ty .bool))], [], [], []⟩ else none
def s36 : Sg := ⟨[(.ty (.int .i64))], [], ⟨[(0, (.ty .bool))], [], [], []⟩⟩
def f36 (N : Nat) (x : s36.inp) : Option s36.res := fnS N K35 t36 ⟨h36, a36⟩ s36 x
def c36 : Ctr := ⟨s36, f36⟩
theorem gc36 : GoodC TBEn 36 c36 := good2 (T := TBEn) (f := 36) (K := K35) (c := c36) (F := t36) (nt := ⟨h36, a36⟩) noSpEn gk35 (by kernel_rfl) rfl (by kernel_rfl) (by kernel_rfl) rfl (by kernel_rfl) (by intro N x; kernel_rfl)
def K36 : CTab := fun f svs => bif f.beq 36 then some c36 else K35 f svs
theorem gk36 : GoodK TBEn K36 := by
  intro f svs c h
  unfold K36 at h
  cases hf : f.beq 36 with
  | false => rw [hf] at h; exact gk35 f svs c h
  | true =>
    obtain rfl := Nat.eq_of_beq_eq_true hf
    rw [hf, cond_true] at h
    obtain rfl := Option.some.inj h
    exact ⟨gc36, by kernel_rfl⟩
def h51 (t : Nat) : Option Hn :=
  bif t.beq 2 then some (.ty (.arr 32 (.int .i64))) else bif t.beq 3 then some (.ty (.arr 32 (.int .i64))) else none
def a51 (i : Nat) : Option Shape :=
  bif i.beq 5 then some ⟨[(4, (.ty (.int .i64)))], [(1, (.one (.ty (.arr 32 (.int .i64)))))], [], []⟩ else bif i.beq 14 then some ⟨[(5, (.ty (.int .i64)))], [], [], []⟩ else bif i.beq 21 then some ⟨[(5, (.ty (.int .i64)))], [], [], []⟩ else bif i.beq 24 then some ⟨[(28, (.ty .bool))], [], [], []⟩ else bif i.beq 28 then some ⟨[(5, (.ty (.int .i64)))], [], [], []⟩ else bif i.beq 31 then some ⟨[(5, (.ty (.int .i64)))], [], [], []⟩ else bif i.beq 34 then some ⟨[(5, (.ty (.int .i64)))], [], [], []⟩ else bif i.beq 35 then some ⟨[(42, (.ty .bool))], [], [], []⟩ else bif i.beq 37 then some ⟨[(50, (.ty .bool))], [], [], []⟩ else bif i.beq 45 then some ⟨[(5, (.ty (.int .i64)))], [], [], []⟩ else bif i.beq 48 then some ⟨[(5, (.ty (.int .i64)))], [], [], []⟩ else bif i.beq 49 then some ⟨[(67, (.ty .bool))], [], [], []⟩ else bif i.beq 51 then some ⟨[(5, (.ty (.int .i64)))], [], [], []⟩ else bif i.beq 54 then some ⟨[(76, (.ty .bool))], [], [], []⟩ else none
def s51 : Sg := ⟨[(.ty (.int .i64))], [], ⟨[(0, (.ty (.arr 32 (.int .i64))))], [], [], []⟩⟩
def f51 (N : Nat) (x : s51.inp) : Option s51.res := fnS N K36 t51 ⟨h51, a51⟩ s51 x
def c51 : Ctr := ⟨s51, f51⟩
theorem gc51 : GoodC TBEn 51 c51 := good2 (T := TBEn) (f := 51) (K := K36) (c := c51) (F := t51) (nt := ⟨h51, a51⟩) noSpEn gk36 (by kernel_rfl) rfl (by kernel_rfl) (by kernel_rfl) rfl (by kernel_rfl) (by intro N x; kernel_rfl)
def K51 : CTab := fun f svs => bif f.beq 51 then some c51 else K36 f svs
theorem gk51 : GoodK TBEn K51 := by
  intro f svs c h
  unfold K51 at h
  cases hf : f.beq 51 with
  | false => rw [hf] at h; exact gk36 f svs c h
  | true =>
    obtain rfl := Nat.eq_of_beq_eq_true hf
    rw [hf, cond_true] at h
    obtain rfl := Option.some.inj h
    exact ⟨gc51, by kernel_rfl⟩
def h37 (t : Nat) : Option Hn :=
  bif t.beq 5 then some (.ty (.arr 32 (.int .i64))) else none
def a37 (i : Nat) : Option Shape :=
  bif i.beq 6 then some ⟨[(6, (.ty (.int .u32))), (7, (.ty (.int .i64)))], [], [], []⟩ else bif i.beq 11 then some ⟨[(6, (.ty (.int .u32)))], [], [], []⟩ else bif i.beq 12 then some ⟨[(28, (.ty .bool))], [], [], []⟩ else none
def s37 : Sg := ⟨[(.ty (.int .i64)), (.ty (.int .i64))], [], ⟨[(0, (.ty (.int .u32)))], [], [], []⟩⟩
def f37 (N : Nat) (x : s37.inp) : Option s37.res := fnS N K51 t37 ⟨h37, a37⟩ s37 x
def c37 : Ctr := ⟨s37, f37⟩
theorem gc37 : GoodC TBEn 37 c37 := good2 (T := TBEn) (f := 37) (K := K51) (c := c37) (F := t37) (nt := ⟨h37, a37⟩) noSpEn gk51 (by kernel_rfl) rfl (by kernel_rfl) (by kernel_rfl) rfl (by kernel_rfl) (by intro N x; kernel_rfl)
def K37 : CTab := fun f svs => bif f.beq 37 then some c37 else K51 f svs
theorem gk37 : GoodK TBEn K37 := by
  intro f svs c h
  unfold K37 at h
  cases hf : f.beq 37 with
  | false => rw [hf] at h; exact gk51 f svs c h
  | true =>
    obtain rfl := Nat.eq_of_beq_eq_true hf
    rw [hf, cond_true] at h
    obtain rfl := Option.some.inj h
    exact ⟨gc37, by kernel_rfl⟩
def h38 (t : Nat) : Option Hn :=
  bif t.beq 15 then some (.ty (.int .u32)) else none
def a38 (i : Nat) : Option Shape :=
  bif i.beq 2 then some ⟨[(8, (.ty .bool))], [], [], []⟩ else bif i.beq 6 then some ⟨[(14, (.ty .bool))], [], [], []⟩ else none
def s38 : Sg := ⟨[(.ty (.int .i64))], [], ⟨[(0, (.ty (.int .u32)))], [], [], []⟩⟩
def f38 (N : Nat) (x : s38.inp) : Option s38.res := fnS N K37 t38 ⟨h38, a38⟩ s38 x
def c38 : Ctr := ⟨s38, f38⟩
theorem gc38 : GoodC TBEn 38 c38 := good2 (T := TBEn) (f := 38) (K := K37) (c := c38) (F := t38) (nt := ⟨h38, a38⟩) noSpEn gk37 (by kernel_rfl) rfl (by kernel_rfl) (by kernel_rfl) rfl (by kernel_rfl) (by intro N x; kernel_rfl)
def K38 : CTab := fun f svs => bif f.beq 38 then some c38 else K37 f svs
theorem gk38 : GoodK TBEn K38 := by
  intro f svs c h
  unfold K38 at h
  cases hf : f.beq 38 with
  | false => rw [hf] at h; exact gk37 f svs c h
  | true =>
    obtain rfl := Nat.eq_of_beq_eq_true hf
    rw [hf, cond_true] at h
    obtain rfl := Option.some.inj h
    exact ⟨gc38, by kernel_rfl⟩
def h11 (t : Nat) : Option Hn :=
  none
def a11 (i : Nat) : Option Shape :=
  bif i.beq 3 then some ⟨[(4, (.ty (.int .u32)))], [], [], []⟩ else bif i.beq 6 then some ⟨[(4, (.ty (.int .u32)))], [], [], []⟩ else bif i.beq 9 then some ⟨[(4, (.ty (.int .u32)))], [], [], []⟩ else bif i.beq 14 then some ⟨[(4, (.ty (.int .u32)))], [], [], []⟩ else bif i.beq 18 then some ⟨[(4, (.ty (.int .u32)))], [], [], []⟩ else none
def s11 : Sg := ⟨[(.ty (.pair (.int .i64) (.pair (.int .i64) (.pair (.int .i64) (.pair (.int .i64) (.pair (.int .i64) (.pair .bool (.pair .bool (.pair (.int .i64) (.int .i64))))))))))], [], ⟨[(0, (.ty (.int .u32)))], [], [], []⟩⟩
def f11 (N : Nat) (x : s11.inp) : Option s11.res := fnS N K38 t11 ⟨h11, a11⟩ s11 x
def c11 : Ctr := ⟨s11, f11⟩
theorem gc11 : GoodC TBEn 11 c11 := good2 (T := TBEn) (f := 11) (K := K38) (c := c11) (F := t11) (nt := ⟨h11, a11⟩) noSpEn gk38 (by kernel_rfl) rfl (by kernel_rfl) (by kernel_rfl) rfl (by kernel_rfl) (by intro N x; kernel_rfl)
def K11 : CTab := fun f svs => bif f.beq 11 then some c11 else K38 f svs
theorem gk11 : GoodK TBEn K11 := by
  intro f svs c h
  unfold K11 at h
  cases hf : f.beq 11 with
  | false => rw [hf] at h; exact gk38 f svs c h
  | true =>
    obtain rfl := Nat.eq_of_beq_eq_true hf
    rw [hf, cond_true] at h
    obtain rfl := Option.some.inj h
    exact ⟨gc11, by kernel_rfl⟩
def h3 (t : Nat) : Option Hn :=
  none
def a3 (i : Nat) : Option Shape :=
  bif i.beq 14 then some ⟨[(2, (.ty .bool))], [], [], []⟩ else bif i.beq 15 then some ⟨[(2, (.ty .bool))], [], [], []⟩ else none
def s3 : Sg := ⟨[(.ty (.pair (.int .i64) (.pair (.int .i64) (.pair (.int .i64) (.pair (.int .i64) (.pair (.int .i64) (.pair .bool (.pair .bool (.pair (.int .i64) (.int .i64))))))))))], [], ⟨[(0, (.ty .bool))], [], [], []⟩⟩
def f3 (N : Nat) (x : s3.inp) : Option s3.res := fnS N K11 t3 ⟨h3, a3⟩ s3 x
def c3 : Ctr := ⟨s3, f3⟩
theorem gc3 : GoodC TBEn 3 c3 := good2 (T := TBEn) (f := 3) (K := K11) (c := c3) (F := t3) (nt := ⟨h3, a3⟩) noSpEn gk11 (by kernel_rfl) rfl (by kernel_rfl) (by kernel_rfl) rfl (by kernel_rfl) (by intro N x; kernel_rfl)
def K3 : CTab := fun f svs => bif f.beq 3 then some c3 else K11 f svs
theorem gk3 : GoodK TBEn K3 := by
  intro f svs c h
  unfold K3 at h
  cases hf : f.beq 3 with
  | false => rw [hf] at h; exact gk11 f svs c h
  | true =>
    obtain rfl := Nat.eq_of_beq_eq_true hf
    rw [hf, cond_true] at h
    obtain rfl := Option.some.inj h
    exact ⟨gc3, by kernel_rfl⟩
def h4 (t : Nat) : Option Hn :=
  bif t.beq 7 then some (.ty (.pair (.int .i64) (.pair (.int .i64) (.pair (.int .i64) (.pair (.int .i64) (.pair (.int .i64) (.pair .bool (.pair .bool (.pair (.int .i64) (.int .i64)))))))))) else bif t.beq 9 then some (.ty (.pair (.int .i64) (.pair (.int .i64) (.pair (.int .i64) (.pair (.int .i64) (.pair (.int .i64) (.pair .bool (.pair .bool (.pair (.int .i64) (.int .i64)))))))))) else none
def a4 (i : Nat) : Option Shape :=
  bif i.beq 6 then some ⟨[], [], [], []⟩ else bif i.beq 10 then some ⟨[(33, (.ty .bool))], [], [], []⟩ else bif i.beq 22 then some ⟨[(4, (.ty .bool))], [], [], []⟩ else bif i.beq 26 then some ⟨[(4, (.ty .bool))], [], [], []⟩ else bif i.beq 27 then some ⟨[(4, (.ty .bool))], [], [], []⟩ else none
def s4 : Sg := ⟨[(.ty (.pair (.int .i64) (.pair (.int .i64) (.pair (.int .i64) (.pair (.int .i64) (.pair (.int .i64) (.pair .bool (.pair .bool (.pair (.int .i64) (.int .i64)))))))))), (.ty (.int .u32))], [], ⟨[(0, (.ty .bool))], [], [], []⟩⟩
def f4 (N : Nat) (x : s4.inp) : Option s4.res := fnS N K3 t4 ⟨h4, a4⟩ s4 x
def c4 : Ctr := ⟨s4, f4⟩
theorem gc4 : GoodC TBEn 4 c4 := good2 (T := TBEn) (f := 4) (K := K3) (c := c4) (F := t4) (nt := ⟨h4, a4⟩) noSpEn gk3 (by kernel_rfl) rfl (by kernel_rfl) (by kernel_rfl) rfl (by kernel_rfl) (by intro N x; kernel_rfl)
def K4 : CTab := fun f svs => bif f.beq 4 then some c4 else K3 f svs
theorem gk4 : GoodK TBEn K4 := by
  intro f svs c h
  unfold K4 at h
  cases hf : f.beq 4 with
  | false => rw [hf] at h; exact gk3 f svs c h
  | true =>
    obtain rfl := Nat.eq_of_beq_eq_true hf
    rw [hf, cond_true] at h
    obtain rfl := Option.some.inj h
    exact ⟨gc4, by kernel_rfl⟩
def h5 (t : Nat) : Option Hn :=
  none
def a5 (i : Nat) : Option Shape :=
  bif i.beq 7 then some ⟨[(4, (.ty .bool))], [], [], []⟩ else none
def s5 : Sg := ⟨[(.ty (.pair (.int .i64) (.pair (.int .i64) (.pair (.int .i64) (.pair (.int .i64) (.pair (.int .i64) (.pair .bool (.pair .bool (.pair (.int .i64) (.int .i64)))))))))), (.ty (.pair (.int .i64) (.pair (.int .i64) (.pair (.int .i64) (.pair (.int .i64) (.pair (.int .i64) (.pair .bool (.pair .bool (.pair (.int .i64) (.int .i64))))))))))], [], ⟨[(0, (.ty .bool))], [], [], []⟩⟩
def f5 (N : Nat) (x : s5.inp) : Option s5.res := fnS N K4 t5 ⟨h5, a5⟩ s5 x
def c5 : Ctr := ⟨s5, f5⟩
theorem gc5 : GoodC TBEn 5 c5 := good2 (T := TBEn) (f := 5) (K := K4) (c := c5) (F := t5) (nt := ⟨h5, a5⟩) noSpEn gk4 (by kernel_rfl) rfl (by kernel_rfl) (by kernel_rfl) rfl (by kernel_rfl) (by intro N x; kernel_rfl)
def K5 : CTab := fun f svs => bif f.beq 5 then some c5 else K4 f svs
theorem gk5 : GoodK TBEn K5 := by
  intro f svs c h
  unfold K5 at h
  cases hf : f.beq 5 with
  | false => rw [hf] at h; exact gk4 f svs c h
  | true =>
    obtain rfl := Nat.eq_of_beq_eq_true hf
    rw [hf, cond_true] at h
    obtain rfl := Option.some.inj h
    exact ⟨gc5, by kernel_rfl⟩
def h41 (t : Nat) : Option Hn :=
  bif t.beq 13 then some (.ty (.int .u8)) else none
def a41 (i : Nat) : Option Shape :=
  bif i.beq 5 then some ⟨[(0, (.ty (.int .u64))), (5, (.sla 0 .yes)), (8, (.ty (.int .i64)))], [], [], [⟨true, (.many (.int .u8))⟩]⟩ else none
def s41 : Sg := ⟨[(.ty (.int .u64)), (.ty (.int .i64))], [], ⟨[(0, (.sla 0 .yes))], [], [], [⟨true, (.many (.int .u8))⟩]⟩⟩
def f41 (N : Nat) (x : s41.inp) : Option s41.res := fnS N K5 t41 ⟨h41, a41⟩ s41 x
def c41 : Ctr := ⟨s41, f41⟩
theorem gc41 : GoodC TBEn 41 c41 := good3 (T := TBEn) (f := 41) (K := K5) (c := c41) (F := t41) (nt := ⟨h41, a41⟩) noSpEn gk5 (by kernel_rfl) rfl (by kernel_rfl) (by kernel_rfl) (by intro N x; kernel_rfl)
def K41 : CTab := fun f svs => bif f.beq 41 then some c41 else K5 f svs
theorem gk41 : GoodK TBEn K41 := by
  intro f svs c h
  unfold K41 at h
  cases hf : f.beq 41 with
  | false => rw [hf] at h; exact gk5 f svs c h
  | true =>
    obtain rfl := Nat.eq_of_beq_eq_true hf
    rw [hf, cond_true] at h
    obtain rfl := Option.some.inj h
    exact ⟨gc41, by kernel_rfl⟩
def h13 (t : Nat) : Option Hn :=
  bif t.beq 7 then some (.ty (.pair (.int .i64) (.pair (.int .i64) (.pair (.int .i64) (.pair (.int .i64) (.pair (.int .i64) (.pair .bool (.pair .bool (.pair (.int .i64) (.int .i64)))))))))) else none
def a13 (i : Nat) : Option Shape :=
  bif i.beq 6 then some ⟨[(4, (.sla 1 .yes)), (5, (.ty (.int .i64)))], [], [], [⟨true, (.many (.int .u8))⟩]⟩ else bif i.beq 7 then some ⟨[(4, (.sla 1 .yes)), (5, (.ty (.int .i64))), (12, (.ty (.int .i64)))], [], [], [⟨true, (.many (.int .u8))⟩]⟩ else none
def s13 : Sg := ⟨[(.sla 0 .any)], [⟨false, (.many (.pair (.int .i64) (.pair (.int .i64) (.pair (.int .i64) (.pair (.int .i64) (.pair (.int .i64) (.pair .bool (.pair .bool (.pair (.int .i64) (.int .i64))))))))))⟩], ⟨[(0, (.tup [(.sla 1 .yes), (.ty (.int .i64))]))], [], [], [⟨true, (.many (.int .u8))⟩]⟩⟩
def f13 (N : Nat) (x : s13.inp) : Option s13.res := fnS N K41 t13 ⟨h13, a13⟩ s13 x
def c13 : Ctr := ⟨s13, f13⟩
theorem gc13 : GoodC TBEn 13 c13 := good0 (T := TBEn) (f := 13) (K := K41) (c := c13) (F := t13) (nt := ⟨h13, a13⟩) noSpEn gk41 (by kernel_rfl) rfl (by kernel_rfl) (by intro N x; kernel_rfl)
def K13 : CTab := fun f svs => bif f.beq 13 then some c13 else K41 f svs
theorem gk13 : GoodK TBEn K13 := by
  intro f svs c h
  unfold K13 at h
  cases hf : f.beq 13 with
  | false => rw [hf] at h; exact gk41 f svs c h
  | true =>
    obtain rfl := Nat.eq_of_beq_eq_true hf
    rw [hf, cond_true] at h
    obtain rfl := Option.some.inj h
    exact ⟨gc13, by kernel_rfl⟩
def h14 (t : Nat) : Option Hn :=
  bif t.beq 20 then some (.ty (.int .u8)) else none
def a14 (i : Nat) : Option Shape :=
  bif i.beq 5 then some ⟨[(0, (.ty (.int .u64))), (5, (.sla 0 .yes)), (6, (.ty (.int .i64)))], [], [], [⟨true, (.many (.int .u8))⟩]⟩ else bif i.beq 7 then some ⟨[(13, (.ty .bool))], [], [], []⟩ else none
def s14 : Sg := ⟨[(.ty (.int .u64)), (.ty (.int .i64))], [], ⟨[(0, (.sla 0 .yes))], [], [], [⟨true, (.many (.int .u8))⟩]⟩⟩
def f14 (N : Nat) (x : s14.inp) : Option s14.res := fnS N K13 t14 ⟨h14, a14⟩ s14 x
def c14 : Ctr := ⟨s14, f14⟩
theorem gc14 : GoodC TBEn 14 c14 := good3 (T := TBEn) (f := 14) (K := K13) (c := c14) (F := t14) (nt := ⟨h14, a14⟩) noSpEn gk13 (by kernel_rfl) rfl (by kernel_rfl) (by kernel_rfl) (by intro N x; kernel_rfl)
def K14 : CTab := fun f svs => bif f.beq 14 then some c14 else K13 f svs
theorem gk14 : GoodK TBEn K14 := by
  intro f svs c h
  unfold K14 at h
  cases hf : f.beq 14 with
  | false => rw [hf] at h; exact gk13 f svs c h
  | true =>
    obtain rfl := Nat.eq_of_beq_eq_true hf
    rw [hf, cond_true] at h
    obtain rfl := Option.some.inj h
    exact ⟨gc14, by kernel_rfl⟩
def h62 (t : Nat) : Option Hn :=
  none
def a62 (i : Nat) : Option Shape :=
  bif i.beq 9 then some ⟨[(25, (.ty .bool))], [], [], []⟩ else bif i.beq 14 then some ⟨[(4, (.ty .bool))], [], [], []⟩ else bif i.beq 17 then some ⟨[(4, (.ty .bool))], [], [], []⟩ else bif i.beq 23 then some ⟨[(9, (.ty (.int .u32)))], [], [], []⟩ else bif i.beq 28 then some ⟨[(68, (.ty .bool))], [], [], []⟩ else bif i.beq 36 then some ⟨[(4, (.ty .bool))], [], [], []⟩ else none
def s62 : Sg := ⟨[(.ty (.int .u32)), (.ty (.int .i64))], [], ⟨[(0, (.ty .bool))], [], [], []⟩⟩
def f62 (N : Nat) (x : s62.inp) : Option s62.res := fnS N K14 t62 ⟨h62, a62⟩ s62 x
def c62 : Ctr := ⟨s62, f62⟩
theorem gc62 : GoodC TBEn 62 c62 := good2 (T := TBEn) (f := 62) (K := K14) (c := c62) (F := t62) (nt := ⟨h62, a62⟩) noSpEn gk14 (by kernel_rfl) rfl (by kernel_rfl) (by kernel_rfl) rfl (by kernel_rfl) (by intro N x; kernel_rfl)
def K62 : CTab := fun f svs => bif f.beq 62 then some c62 else K14 f svs
theorem gk62 : GoodK TBEn K62 := by
  intro f svs c h
  unfold K62 at h
  cases hf : f.beq 62 with
  | false => rw [hf] at h; exact gk14 f svs c h
  | true =>
    obtain rfl := Nat.eq_of_beq_eq_true hf
    rw [hf, cond_true] at h
    obtain rfl := Option.some.inj h
    exact ⟨gc62, by kernel_rfl⟩
def h63 (t : Nat) : Option Hn :=
  bif t.beq 5 then some (.ty (.arr 32 (.int .i64))) else none
def a63 (i : Nat) : Option Shape :=
  bif i.beq 6 then some ⟨[(6, (.ty (.int .i64))), (7, (.ty (.int .i64)))], [], [], []⟩ else bif i.beq 11 then some ⟨[(6, (.ty (.int .i64)))], [], [], []⟩ else bif i.beq 13 then some ⟨[(25, (.ty .bool))], [], [], []⟩ else none
def s63 : Sg := ⟨[(.ty (.int .i64)), (.ty (.int .u32))], [], ⟨[(0, (.ty (.int .i64)))], [], [], []⟩⟩
def f63 (N : Nat) (x : s63.inp) : Option s63.res := fnS N K62 t63 ⟨h63, a63⟩ s63 x
def c63 : Ctr := ⟨s63, f63⟩
theorem gc63 : GoodC TBEn 63 c63 := good2 (T := TBEn) (f := 63) (K := K62) (c := c63) (F := t63) (nt := ⟨h63, a63⟩) noSpEn gk62 (by kernel_rfl) rfl (by kernel_rfl) (by kernel_rfl) rfl (by kernel_rfl) (by intro N x; kernel_rfl)
def K63 : CTab := fun f svs => bif f.beq 63 then some c63 else K62 f svs
theorem gk63 : GoodK TBEn K63 := by
  intro f svs c h
  unfold K63 at h
  cases hf : f.beq 63 with
  | false => rw [hf] at h; exact gk62 f svs c h
  | true =>
    obtain rfl := Nat.eq_of_beq_eq_true hf
    rw [hf, cond_true] at h
    obtain rfl := Option.some.inj h
    exact ⟨gc63, by kernel_rfl⟩
def h43 (t : Nat) : Option Hn :=
  bif t.beq 2 then some (.ty (.pair (.int .i64) (.pair (.int .i64) (.pair (.int .i64) (.pair (.int .i64) (.pair (.int .i64) (.pair .bool (.pair .bool (.pair (.int .i64) (.int .i64)))))))))) else bif t.beq 5 then some (.ty (.pair (.int .i64) (.pair (.int .i64) (.pair (.int .i64) (.pair (.int .i64) (.pair (.int .i64) (.pair .bool (.pair .bool (.pair (.int .i64) (.int .i64)))))))))) else bif t.beq 15 then some (.ty (.pair (.int .i64) (.pair (.int .i64) (.pair (.int .i64) (.pair (.int .i64) (.pair (.int .i64) (.pair .bool (.pair .bool (.pair (.int .i64) (.int .i64)))))))))) else bif t.beq 91 then some (.ty (.pair (.int .i64) (.pair (.int .i64) (.pair (.int .i64) (.pair (.int .i64) (.pair (.int .i64) (.pair .bool (.pair .bool (.pair (.int .i64) (.int .i64)))))))))) else none
def a43 (i : Nat) : Option Shape :=
  bif i.beq 4 then some ⟨[(4, (.ty (.int .i64)))], [], [], []⟩ else bif i.beq 14 then some ⟨[], [(1, (.one (.ty (.pair (.int .i64) (.pair (.int .i64) (.pair (.int .i64) (.pair (.int .i64) (.pair (.int .i64) (.pair .bool (.pair .bool (.pair (.int .i64) (.int .i64))))))))))))], [], []⟩ else bif i.beq 17 then some ⟨[], [(1, (.one (.ty (.pair (.int .i64) (.pair (.int .i64) (.pair (.int .i64) (.pair (.int .i64) (.pair (.int .i64) (.pair .bool (.pair .bool (.pair (.int .i64) (.int .i64))))))))))))], [], []⟩ else bif i.beq 20 then some ⟨[], [(1, (.one (.ty (.pair (.int .i64) (.pair (.int .i64) (.pair (.int .i64) (.pair (.int .i64) (.pair (.int .i64) (.pair .bool (.pair .bool (.pair (.int .i64) (.int .i64))))))))))))], [], []⟩ else bif i.beq 23 then some ⟨[], [(1, (.one (.ty (.pair (.int .i64) (.pair (.int .i64) (.pair (.int .i64) (.pair (.int .i64) (.pair (.int .i64) (.pair .bool (.pair .bool (.pair (.int .i64) (.int .i64))))))))))))], [], []⟩ else bif i.beq 26 then some ⟨[], [(1, (.one (.ty (.pair (.int .i64) (.pair (.int .i64) (.pair (.int .i64) (.pair (.int .i64) (.pair (.int .i64) (.pair .bool (.pair .bool (.pair (.int .i64) (.int .i64))))))))))))], [], []⟩ else bif i.beq 29 then some ⟨[], [(1, (.one (.ty (.pair (.int .i64) (.pair (.int .i64) (.pair (.int .i64) (.pair (.int .i64) (.pair (.int .i64) (.pair .bool (.pair .bool (.pair (.int .i64) (.int .i64))))))))))))], [], []⟩ else bif i.beq 32 then some ⟨[], [(1, (.one (.ty (.pair (.int .i64) (.pair (.int .i64) (.pair (.int .i64) (.pair (.int .i64) (.pair (.int .i64) (.pair .bool (.pair .bool (.pair (.int .i64) (.int .i64))))))))))))], [], []⟩ else bif i.beq 36 then some ⟨[], [(1, (.one (.ty (.pair (.int .i64) (.pair (.int .i64) (.pair (.int .i64) (.pair (.int .i64) (.pair (.int .i64) (.pair .bool (.pair .bool (.pair (.int .i64) (.int .i64))))))))))))], [], []⟩ else bif i.beq 40 then some ⟨[], [(1, (.one (.ty (.pair (.int .i64) (.pair (.int .i64) (.pair (.int .i64) (.pair (.int .i64) (.pair (.int .i64) (.pair .bool (.pair .bool (.pair (.int .i64) (.int .i64))))))))))))], [], []⟩ else none
def s43 : Sg := ⟨[(.ty (.int .u32))], [], ⟨[(0, (.tup [(.ty (.pair (.int .i64) (.pair (.int .i64) (.pair (.int .i64) (.pair (.int .i64) (.pair (.int .i64) (.pair .bool (.pair .bool (.pair (.int .i64) (.int .i64)))))))))), (.ty .bool)]))], [], [], []⟩⟩
def f43 (N : Nat) (x : s43.inp) : Option s43.res := fnS N K63 t43 ⟨h43, a43⟩ s43 x
def c43 : Ctr := ⟨s43, f43⟩
theorem gc43 : GoodC TBEn 43 c43 := good2 (T := TBEn) (f := 43) (K := K63) (c := c43) (F := t43) (nt := ⟨h43, a43⟩) noSpEn gk63 (by kernel_rfl) rfl (by kernel_rfl) (by kernel_rfl) rfl (by kernel_rfl) (by intro N x; kernel_rfl)
def K43 : CTab := fun f svs => bif f.beq 43 then some c43 else K63 f svs
theorem gk43 : GoodK TBEn K43 := by
  intro f svs c h
  unfold K43 at h
  cases hf : f.beq 43 with
  | false => rw [hf] at h; exact gk63 f svs c h
  | true =>
    obtain rfl := Nat.eq_of_beq_eq_true hf
    rw [hf, cond_true] at h
    obtain rfl := Option.some.inj h
    exact ⟨gc43, by kernel_rfl⟩
def h17 (t : Nat) : Option Hn :=
  bif t.beq 6 then some (.ty (.pair (.int .i64) (.pair (.int .i64) (.pair (.int .i64) (.pair (.int .i64) (.pair (.int .i64) (.pair .bool (.pair .bool (.pair (.int .i64) (.int .i64)))))))))) else bif t.beq 51 then some (.ty (.pair (.int .i64) (.pair (.int .i64) (.pair (.int .i64) (.pair (.int .i64) (.pair (.int .i64) (.pair .bool (.pair .bool (.pair (.int .i64) (.int .i64)))))))))) else none
def a17 (i : Nat) : Option Shape :=
  bif i.beq 5 then some ⟨[(3, (.sla 1 .yes)), (4, (.ty (.int .i64)))], [], [], [⟨true, (.many (.pair (.int .i64) (.pair (.int .i64) (.pair (.int .i64) (.pair (.int .i64) (.pair (.int .i64) (.pair .bool (.pair .bool (.pair (.int .i64) (.int .i64))))))))))⟩]⟩ else none
def s17 : Sg := ⟨[(.sla 0 .any)], [⟨false, (.many (.int .u8))⟩], ⟨[(0, (.sla 1 .yes))], [], [], [⟨true, (.many (.pair (.int .i64) (.pair (.int .i64) (.pair (.int .i64) (.pair (.int .i64) (.pair (.int .i64) (.pair .bool (.pair .bool (.pair (.int .i64) (.int .i64))))))))))⟩]⟩⟩
def f17 (N : Nat) (x : s17.inp) : Option s17.res := fnS N K43 t17 ⟨h17, a17⟩ s17 x
def c17 : Ctr := ⟨s17, f17⟩
theorem gc17 : GoodC TBEn 17 c17 := good3 (T := TBEn) (f := 17) (K := K43) (c := c17) (F := t17) (nt := ⟨h17, a17⟩) noSpEn gk43 (by kernel_rfl) rfl (by kernel_rfl) (by kernel_rfl) (by intro N x; kernel_rfl)
def K17 : CTab := fun f svs => bif f.beq 17 then some c17 else K43 f svs
theorem gk17 : GoodK TBEn K17 := by
  intro f svs c h
  unfold K17 at h
  cases hf : f.beq 17 with
  | false => rw [hf] at h; exact gk43 f svs c h
  | true =>
    obtain rfl := Nat.eq_of_beq_eq_true hf
    rw [hf, cond_true] at h
    obtain rfl := Option.some.inj h
    exact ⟨gc17, by kernel_rfl⟩
def h15 (t : Nat) : Option Hn :=
  none
def a15 (i : Nat) : Option Shape :=
  bif i.beq 8 then some ⟨[(5, (.ty (.int .i64)))], [], [], []⟩ else none
def s15 : Sg := ⟨[(.sla 0 .any), (.sla 1 .any)], [⟨false, (.many (.pair (.int .i64) (.pair (.int .i64) (.pair (.int .i64) (.pair (.int .i64) (.pair (.int .i64) (.pair .bool (.pair .bool (.pair (.int .i64) (.int .i64))))))))))⟩, ⟨false, (.many (.pair (.int .i64) (.pair (.int .i64) (.pair (.int .i64) (.pair (.int .i64) (.pair (.int .i64) (.pair .bool (.pair .bool (.pair (.int .i64) (.int .i64))))))))))⟩], ⟨[(0, (.ty .bool))], [], [], []⟩⟩
def f15 (N : Nat) (x : s15.inp) : Option s15.res := fnS N K17 t15 ⟨h15, a15⟩ s15 x
def c15 : Ctr := ⟨s15, f15⟩
theorem gc15 : GoodC TBEn 15 c15 := good1 (T := TBEn) (f := 15) (K := K17) (c := c15) (F := t15) (nt := ⟨h15, a15⟩) noSpEn gk17 (by kernel_rfl) rfl (by kernel_rfl) (by kernel_rfl) (by intro N x; kernel_rfl)
def K15 : CTab := fun f svs => bif f.beq 15 then some c15 else K17 f svs
theorem gk15 : GoodK TBEn K15 := by
  intro f svs c h
  unfold K15 at h
  cases hf : f.beq 15 with
  | false => rw [hf] at h; exact gk17 f svs c h
  | true =>
    obtain rfl := Nat.eq_of_beq_eq_true hf
    rw [hf, cond_true] at h
    obtain rfl := Option.some.inj h
    exact ⟨gc15, by kernel_rfl⟩
def h18 (t : Nat) : Option Hn :=
  none
def a18 (i : Nat) : Option Shape :=
  bif i.beq 8 then some ⟨[(5, (.ty (.int .i64)))], [], [], []⟩ else none
def s18 : Sg := ⟨[(.sla 0 .any), (.sla 1 .any)], [⟨false, (.many (.int .u8))⟩, ⟨false, (.many (.int .u8))⟩], ⟨[(0, (.ty .bool))], [], [], []⟩⟩
def f18 (N : Nat) (x : s18.inp) : Option s18.res := fnS N K15 t18 ⟨h18, a18⟩ s18 x
def c18 : Ctr := ⟨s18, f18⟩
theorem gc18 : GoodC TBEn 18 c18 := good1 (T := TBEn) (f := 18) (K := K15) (c := c18) (F := t18) (nt := ⟨h18, a18⟩) noSpEn gk15 (by kernel_rfl) rfl (by kernel_rfl) (by kernel_rfl) (by intro N x; kernel_rfl)
def K18 : CTab := fun f svs => bif f.beq 18 then some c18 else K15 f svs
theorem gk18 : GoodK TBEn K18 := by
  intro f svs c h
  unfold K18 at h
  cases hf : f.beq 18 with
  | false => rw [hf] at h; exact gk15 f svs c h
  | true =>
    obtain rfl := Nat.eq_of_beq_eq_true hf
    rw [hf, cond_true] at h
    obtain rfl := Option.some.inj h
    exact ⟨gc18, by kernel_rfl⟩
def h6 (t : Nat) : Option Hn :=
  none
def a6 (i : Nat) : Option Shape :=
  bif i.beq 6 then some ⟨[(19, (.ty .bool))], [], [], []⟩ else bif i.beq 15 then some ⟨[(7, (.sla 3 .yes)), (8, (.ty .bool)), (9, (.ty (.int .i64)))], [], [], [⟨true, (.many (.int .u8))⟩]⟩ else bif i.beq 20 then some ⟨[(7, (.sla 4 .yes)), (8, (.ty .bool))], [], [3], [⟨true, (.many (.int .u8))⟩]⟩ else bif i.beq 21 then some ⟨[(8, (.ty .bool))], [], [], []⟩ else bif i.beq 31 then some ⟨[(4, (.ty .bool))], [], [], []⟩ else bif i.beq 32 then some ⟨[(4, (.ty .bool))], [], [], []⟩ else none
def s6 : Sg := ⟨[(.sla 0 .any), (.sla 1 .any)], [⟨false, (.many (.pair (.int .i64) (.pair (.int .i64) (.pair (.int .i64) (.pair (.int .i64) (.pair (.int .i64) (.pair .bool (.pair .bool (.pair (.int .i64) (.int .i64))))))))))⟩, ⟨false, (.many (.int .u8))⟩], ⟨[(0, (.ty .bool))], [], [], []⟩⟩
def f6 (N : Nat) (x : s6.inp) : Option s6.res := fnS N K18 t6 ⟨h6, a6⟩ s6 x
def c6 : Ctr := ⟨s6, f6⟩
theorem gc6 : GoodC TBEn 6 c6 := good1 (T := TBEn) (f := 6) (K := K18) (c := c6) (F := t6) (nt := ⟨h6, a6⟩) noSpEn gk18 (by kernel_rfl) rfl (by kernel_rfl) (by kernel_rfl) (by intro N x; kernel_rfl)
def K6 : CTab := fun f svs => bif f.beq 6 then some c6 else K18 f svs
theorem gk6 : GoodK TBEn K6 := by
  intro f svs c h
  unfold K6 at h
  cases hf : f.beq 6 with
  | false => rw [hf] at h; exact gk18 f svs c h
  | true =>
    obtain rfl := Nat.eq_of_beq_eq_true hf
    rw [hf, cond_true] at h
    obtain rfl := Option.some.inj h
    exact ⟨gc6, by kernel_rfl⟩
end Go.Proofs.Ytkcfkegkhopakaa
