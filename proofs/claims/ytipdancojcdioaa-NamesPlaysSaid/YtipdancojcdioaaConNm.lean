/- Contracts of functions, by their bodies and shapes. No condition. -/
import Derived.Test.YtipdancojcdioaaShR
import Derived.Test.YtipdancojcdioaaTabNm
import Derived.KernelRfl
namespace Go.Proofs.Ytipdancojcdioaa
open Go Go.Ev Go.Sh
set_option maxRecDepth 100000
set_option linter.unusedVariables false
theorem noSpNm : NoSp TBNm := fun _ _ => rfl
def K0Nm : CTab := fun _ _ => none
theorem gk0Nm : GoodK TBNm K0Nm := fun _ _ _ h => by cases h
def h16 (t : Nat) : Option Hn :=
  bif t.beq 6 then some (.parts [some (.arr 44 (.pair (.int .u64) .bool)), some (.arr 32 (.int .i64)), none]) else bif t.beq 20 then some (.ty (.pair (.int .u64) .bool)) else none
def a16 (i : Nat) : Option Shape :=
  bif i.beq 6 then some ⟨[(10, (.ty (.int .i64)))], [(1, (.one (.segs [(.ty (.arr 44 (.pair (.int .u64) .bool))), (.ty (.arr 32 (.int .i64))), .nils])))], [], []⟩ else none
def s16 : Sg := ⟨[(.ty (.arr 32 (.int .u64)))], [], ⟨[(0, (.ptr 0))], [], [], [⟨true, (.one (.segs [(.ty (.arr 44 (.pair (.int .u64) .bool))), (.ty (.arr 32 (.int .i64))), .nils]))⟩]⟩⟩
def f16 (N : Nat) (x : s16.inp) : Option s16.res := fnS N K0Nm t16 ⟨h16, a16⟩ s16 x
def c16 : Ctr := ⟨s16, f16⟩
theorem gc16 : GoodC TBNm 16 c16 := good0 (T := TBNm) (f := 16) (K := K0Nm) (c := c16) (F := t16) (nt := ⟨h16, a16⟩) noSpNm gk0Nm (by kernel_rfl) rfl (by kernel_rfl) (by intro N x; kernel_rfl)
def K16 : CTab := fun f svs => bif f.beq 16 then some c16 else K0Nm f svs
theorem gk16 : GoodK TBNm K16 := by
  intro f svs c h
  unfold K16 at h
  cases hf : f.beq 16 with
  | false => rw [hf] at h; exact gk0Nm f svs c h
  | true =>
    obtain rfl := Nat.eq_of_beq_eq_true hf
    rw [hf, cond_true] at h
    obtain rfl := Option.some.inj h
    exact ⟨gc16, by kernel_rfl⟩
def h56 (t : Nat) : Option Hn :=
  bif t.beq 8 then some (.ty (.pair (.int .i64) (.int .i64))) else none
def a56 (i : Nat) : Option Shape :=
  bif i.beq 4 then some ⟨[(13, (.ty (.int .i64)))], [], [], []⟩ else bif i.beq 17 then some ⟨[(25, (.ty (.int .i64)))], [], [], []⟩ else none
def s56 : Sg := ⟨[(.ptr 0), (.ty (.int .i64))], [⟨false, (.one (.segs [(.ty (.arr 44 (.pair (.int .u64) .bool))), (.ty (.arr 32 (.int .i64))), (.sla 1 .no)]))⟩, ⟨false, (.many (.pair (.int .i64) (.int .i64)))⟩], ⟨[(0, (.ty .bool))], [], [], []⟩⟩
def f56 (N : Nat) (x : s56.inp) : Option s56.res := fnS N K16 t56 ⟨h56, a56⟩ s56 x
def c56 : Ctr := ⟨s56, f56⟩
theorem gc56 : GoodC TBNm 56 c56 := good1 (T := TBNm) (f := 56) (K := K16) (c := c56) (F := t56) (nt := ⟨h56, a56⟩) noSpNm gk16 (by kernel_rfl) rfl (by kernel_rfl) (by kernel_rfl) (by intro N x; kernel_rfl)
def K56 : CTab := fun f svs => bif f.beq 56 then some c56 else K16 f svs
theorem gk56 : GoodK TBNm K56 := by
  intro f svs c h
  unfold K56 at h
  cases hf : f.beq 56 with
  | false => rw [hf] at h; exact gk16 f svs c h
  | true =>
    obtain rfl := Nat.eq_of_beq_eq_true hf
    rw [hf, cond_true] at h
    obtain rfl := Option.some.inj h
    exact ⟨gc56, by kernel_rfl⟩
def h18 (t : Nat) : Option Hn :=
  bif t.beq 30 then some (.ty (.pair (.int .u64) .bool)) else bif t.beq 41 then some (.ty (.pair (.int .i64) (.int .i64))) else bif t.beq 42 then some (.ty (.pair (.int .i64) (.int .i64))) else none
def a18 (i : Nat) : Option Shape :=
  bif i.beq 2 then some ⟨[(17, (.ty .bool))], [], [], []⟩ else bif i.beq 9 then some ⟨[(6, (.ty (.int .i64)))], [], [], []⟩ else bif i.beq 10 then some ⟨[(6, (.ty (.int .i64))), (18, (.ty (.int .i64)))], [], [], []⟩ else none
def s18 : Sg := ⟨[(.ptr 0), (.ty (.int .i64))], [⟨true, (.one (.segs [(.ty (.arr 44 (.pair (.int .u64) .bool))), (.ty (.arr 32 (.int .i64))), (.sla 1 .no)]))⟩, ⟨true, (.many (.pair (.int .i64) (.int .i64)))⟩], ⟨[(0, (.tup [(.ty (.int .i64)), (.ty .bool)]))], [(0, (.one (.segs [(.ty (.arr 44 (.pair (.int .u64) .bool))), (.ty (.arr 32 (.int .i64))), (.sla 2 .no)])))], [1], [⟨true, (.many (.pair (.int .i64) (.int .i64)))⟩]⟩⟩
def f18 (N : Nat) (x : s18.inp) : Option s18.res := fnS N K56 t18 ⟨h18, a18⟩ s18 x
def c18 : Ctr := ⟨s18, f18⟩
theorem gc18 : GoodC TBNm 18 c18 := good0 (T := TBNm) (f := 18) (K := K56) (c := c18) (F := t18) (nt := ⟨h18, a18⟩) noSpNm gk56 (by kernel_rfl) rfl (by kernel_rfl) (by intro N x; kernel_rfl)
def K18 : CTab := fun f svs => bif f.beq 18 then some c18 else K56 f svs
theorem gk18 : GoodK TBNm K18 := by
  intro f svs c h
  unfold K18 at h
  cases hf : f.beq 18 with
  | false => rw [hf] at h; exact gk56 f svs c h
  | true =>
    obtain rfl := Nat.eq_of_beq_eq_true hf
    rw [hf, cond_true] at h
    obtain rfl := Option.some.inj h
    exact ⟨gc18, by kernel_rfl⟩
def h17 (t : Nat) : Option Hn :=
  none
def a17 (i : Nat) : Option Shape :=
  none
def s17 : Sg := ⟨[(.ptr 0)], [⟨false, (.one (.segs [(.ty (.arr 44 (.pair (.int .u64) .bool))), (.ty (.arr 32 (.int .i64))), (.sla 1 .no)]))⟩, ⟨false, (.many (.pair (.int .i64) (.int .i64)))⟩], ⟨[(0, (.ty (.int .i64)))], [], [], []⟩⟩
def f17 (N : Nat) (x : s17.inp) : Option s17.res := fnS N K18 t17 ⟨h17, a17⟩ s17 x
def c17 : Ctr := ⟨s17, f17⟩
theorem gc17 : GoodC TBNm 17 c17 := good1 (T := TBNm) (f := 17) (K := K18) (c := c17) (F := t17) (nt := ⟨h17, a17⟩) noSpNm gk18 (by kernel_rfl) rfl (by kernel_rfl) (by kernel_rfl) (by intro N x; kernel_rfl)
def K17 : CTab := fun f svs => bif f.beq 17 then some c17 else K18 f svs
theorem gk17 : GoodK TBNm K17 := by
  intro f svs c h
  unfold K17 at h
  cases hf : f.beq 17 with
  | false => rw [hf] at h; exact gk18 f svs c h
  | true =>
    obtain rfl := Nat.eq_of_beq_eq_true hf
    rw [hf, cond_true] at h
    obtain rfl := Option.some.inj h
    exact ⟨gc17, by kernel_rfl⟩
def h21 (t : Nat) : Option Hn :=
  none
def a21 (i : Nat) : Option Shape :=
  none
def s21 : Sg := ⟨[(.ptr 0)], [⟨true, (.one (.segs [(.ty (.arr 44 (.pair (.int .u64) .bool))), (.ty (.arr 32 (.int .i64))), (.sla 1 .no)]))⟩, ⟨true, (.many (.pair (.int .i64) (.int .i64)))⟩], ⟨[(0, (.ty .bool))], [(0, (.one (.segs [(.ty (.arr 44 (.pair (.int .u64) .bool))), (.ty (.arr 32 (.int .i64))), (.sla 2 .no)])))], [1], [⟨true, (.many (.pair (.int .i64) (.int .i64)))⟩]⟩⟩
def f21 (N : Nat) (x : s21.inp) : Option s21.res := fnS N K17 t21 ⟨h21, a21⟩ s21 x
def c21 : Ctr := ⟨s21, f21⟩
theorem gc21 : GoodC TBNm 21 c21 := good0 (T := TBNm) (f := 21) (K := K17) (c := c21) (F := t21) (nt := ⟨h21, a21⟩) noSpNm gk17 (by kernel_rfl) rfl (by kernel_rfl) (by intro N x; kernel_rfl)
def K21 : CTab := fun f svs => bif f.beq 21 then some c21 else K17 f svs
theorem gk21 : GoodK TBNm K21 := by
  intro f svs c h
  unfold K21 at h
  cases hf : f.beq 21 with
  | false => rw [hf] at h; exact gk17 f svs c h
  | true =>
    obtain rfl := Nat.eq_of_beq_eq_true hf
    rw [hf, cond_true] at h
    obtain rfl := Option.some.inj h
    exact ⟨gc21, by kernel_rfl⟩
def h19 (t : Nat) : Option Hn :=
  bif t.beq 8 then some (.ty (.pair (.int .i64) (.int .i64))) else bif t.beq 27 then some (.ty (.pair (.int .u64) .bool)) else none
def a19 (i : Nat) : Option Shape :=
  bif i.beq 8 then some ⟨[(16, (.ty (.int .i64)))], [], [], []⟩ else none
def s19 : Sg := ⟨[(.ptr 0), (.ty (.int .i64)), (.ty (.int .u64))], [⟨true, (.one (.segs [(.ty (.arr 44 (.pair (.int .u64) .bool))), (.ty (.arr 32 (.int .i64))), (.sla 1 .no)]))⟩, ⟨true, (.many (.pair (.int .i64) (.int .i64)))⟩], ⟨[(0, (.ty .bool))], [(0, (.one (.segs [(.ty (.arr 44 (.pair (.int .u64) .bool))), (.ty (.arr 32 (.int .i64))), (.sla 2 .no)])))], [1], [⟨true, (.many (.pair (.int .i64) (.int .i64)))⟩]⟩⟩
def f19 (N : Nat) (x : s19.inp) : Option s19.res := fnS N K21 t19 ⟨h19, a19⟩ s19 x
def c19 : Ctr := ⟨s19, f19⟩
theorem gc19 : GoodC TBNm 19 c19 := good0 (T := TBNm) (f := 19) (K := K21) (c := c19) (F := t19) (nt := ⟨h19, a19⟩) noSpNm gk21 (by kernel_rfl) rfl (by kernel_rfl) (by intro N x; kernel_rfl)
def K19 : CTab := fun f svs => bif f.beq 19 then some c19 else K21 f svs
theorem gk19 : GoodK TBNm K19 := by
  intro f svs c h
  unfold K19 at h
  cases hf : f.beq 19 with
  | false => rw [hf] at h; exact gk21 f svs c h
  | true =>
    obtain rfl := Nat.eq_of_beq_eq_true hf
    rw [hf, cond_true] at h
    obtain rfl := Option.some.inj h
    exact ⟨gc19, by kernel_rfl⟩
def h20 (t : Nat) : Option Hn :=
  none
def a20 (i : Nat) : Option Shape :=
  bif i.beq 2 then some ⟨[(21, (.ty .bool))], [], [], []⟩ else none
def s20 : Sg := ⟨[(.ptr 0)], [⟨true, (.one (.segs [(.ty (.arr 44 (.pair (.int .u64) .bool))), (.ty (.arr 32 (.int .i64))), (.sla 1 .no)]))⟩, ⟨true, (.many (.pair (.int .i64) (.int .i64)))⟩], ⟨[(0, (.ty .bool))], [(0, (.one (.segs [(.ty (.arr 44 (.pair (.int .u64) .bool))), (.ty (.arr 32 (.int .i64))), (.sla 2 .no)])))], [1], [⟨true, (.many (.pair (.int .i64) (.int .i64)))⟩]⟩⟩
def f20 (N : Nat) (x : s20.inp) : Option s20.res := fnS N K19 t20 ⟨h20, a20⟩ s20 x
def c20 : Ctr := ⟨s20, f20⟩
theorem gc20 : GoodC TBNm 20 c20 := good0 (T := TBNm) (f := 20) (K := K19) (c := c20) (F := t20) (nt := ⟨h20, a20⟩) noSpNm gk19 (by kernel_rfl) rfl (by kernel_rfl) (by intro N x; kernel_rfl)
def K20 : CTab := fun f svs => bif f.beq 20 then some c20 else K19 f svs
theorem gk20 : GoodK TBNm K20 := by
  intro f svs c h
  unfold K20 at h
  cases hf : f.beq 20 with
  | false => rw [hf] at h; exact gk19 f svs c h
  | true =>
    obtain rfl := Nat.eq_of_beq_eq_true hf
    rw [hf, cond_true] at h
    obtain rfl := Option.some.inj h
    exact ⟨gc20, by kernel_rfl⟩
def h23 (t : Nat) : Option Hn :=
  bif t.beq 2 then some (.ty (.arr 32 (.int .u64))) else bif t.beq 3 then some (.ty (.arr 32 (.int .u64))) else none
def a23 (i : Nat) : Option Shape :=
  bif i.beq 9 then some ⟨[(13, (.ty (.int .i64)))], [(3, (.one (.ty (.arr 32 (.int .u64)))))], [], []⟩ else none
def s23 : Sg := ⟨[(.ptr 0)], [⟨false, (.one (.segs [(.ty (.arr 44 (.pair (.int .u64) .bool))), (.ty (.arr 32 (.int .i64))), (.sla 1 .no)]))⟩, ⟨false, (.many (.pair (.int .i64) (.int .i64)))⟩], ⟨[(0, (.ty (.arr 32 (.int .u64))))], [], [], []⟩⟩
def f23 (N : Nat) (x : s23.inp) : Option s23.res := fnS N K20 t23 ⟨h23, a23⟩ s23 x
def c23 : Ctr := ⟨s23, f23⟩
theorem gc23 : GoodC TBNm 23 c23 := good1 (T := TBNm) (f := 23) (K := K20) (c := c23) (F := t23) (nt := ⟨h23, a23⟩) noSpNm gk20 (by kernel_rfl) rfl (by kernel_rfl) (by kernel_rfl) (by intro N x; kernel_rfl)
def K23 : CTab := fun f svs => bif f.beq 23 then some c23 else K20 f svs
theorem gk23 : GoodK TBNm K23 := by
  intro f svs c h
  unfold K23 at h
  cases hf : f.beq 23 with
  | false => rw [hf] at h; exact gk20 f svs c h
  | true =>
    obtain rfl := Nat.eq_of_beq_eq_true hf
    rw [hf, cond_true] at h
    obtain rfl := Option.some.inj h
    exact ⟨gc23, by kernel_rfl⟩
def h22 (t : Nat) : Option Hn :=
  none
def a22 (i : Nat) : Option Shape :=
  bif i.beq 2 then some ⟨[(15, (.ty .bool))], [], [], []⟩ else bif i.beq 8 then some ⟨[(5, (.ty (.int .i64)))], [], [], []⟩ else none
def s22 : Sg := ⟨[(.ptr 0), (.ty (.int .i64))], [⟨false, (.one (.segs [(.ty (.arr 44 (.pair (.int .u64) .bool))), (.ty (.arr 32 (.int .i64))), (.sla 1 .no)]))⟩, ⟨false, (.many (.pair (.int .i64) (.int .i64)))⟩], ⟨[(0, (.ty (.int .i64)))], [], [], []⟩⟩
def f22 (N : Nat) (x : s22.inp) : Option s22.res := fnS N K23 t22 ⟨h22, a22⟩ s22 x
def c22 : Ctr := ⟨s22, f22⟩
theorem gc22 : GoodC TBNm 22 c22 := good1 (T := TBNm) (f := 22) (K := K23) (c := c22) (F := t22) (nt := ⟨h22, a22⟩) noSpNm gk23 (by kernel_rfl) rfl (by kernel_rfl) (by kernel_rfl) (by intro N x; kernel_rfl)
def K22 : CTab := fun f svs => bif f.beq 22 then some c22 else K23 f svs
theorem gk22 : GoodK TBNm K22 := by
  intro f svs c h
  unfold K22 at h
  cases hf : f.beq 22 with
  | false => rw [hf] at h; exact gk23 f svs c h
  | true =>
    obtain rfl := Nat.eq_of_beq_eq_true hf
    rw [hf, cond_true] at h
    obtain rfl := Option.some.inj h
    exact ⟨gc22, by kernel_rfl⟩
def h15 (t : Nat) : Option Hn :=
  bif t.beq 11 then some (.ty (.arr 32 (.int .u64))) else none
def a15 (i : Nat) : Option Shape :=
  bif i.beq 8 then some ⟨[(0, (.ty .bool))], [], [], []⟩ else none
def s15 : Sg := ⟨[], [], ⟨[(0, (.ty .bool))], [], [], []⟩⟩
def f15 (N : Nat) (x : s15.inp) : Option s15.res := fnS N K22 t15 ⟨h15, a15⟩ s15 x
def c15 : Ctr := ⟨s15, f15⟩
theorem gc15 : GoodC TBNm 15 c15 := good2 (T := TBNm) (f := 15) (K := K22) (c := c15) (F := t15) (nt := ⟨h15, a15⟩) noSpNm gk22 (by kernel_rfl) rfl (by kernel_rfl) (by kernel_rfl) rfl (by kernel_rfl) (by intro N x; kernel_rfl)
def K15 : CTab := fun f svs => bif f.beq 15 then some c15 else K22 f svs
theorem gk15 : GoodK TBNm K15 := by
  intro f svs c h
  unfold K15 at h
  cases hf : f.beq 15 with
  | false => rw [hf] at h; exact gk22 f svs c h
  | true =>
    obtain rfl := Nat.eq_of_beq_eq_true hf
    rw [hf, cond_true] at h
    obtain rfl := Option.some.inj h
    exact ⟨gc15, by kernel_rfl⟩
def h3 (t : Nat) : Option Hn :=
  bif t.beq 9 then some (.ty (.pair (.int .i64) (.pair (.int .i64) (.int .u64)))) else bif t.beq 12 then some (.ty (.arr 32 (.int .i64))) else none
def a3 (i : Nat) : Option Shape :=
  bif i.beq 9 then some ⟨[(8, (.ty (.int .i64)))], [(3, (.one (.segs [(.ty (.arr 44 (.pair (.int .u64) .bool))), (.ty (.arr 32 (.int .i64))), (.sla 4 .no)])))], [], [⟨true, (.many (.pair (.int .i64) (.int .i64)))⟩]⟩ else bif i.beq 11 then some ⟨[(31, (.ty .bool))], [], [], []⟩ else bif i.beq 16 then some ⟨[], [(3, (.one (.segs [(.ty (.arr 44 (.pair (.int .u64) .bool))), (.ty (.arr 32 (.int .i64))), (.sla 6 .no)])))], [4], [⟨true, (.many (.pair (.int .i64) (.int .i64)))⟩]⟩ else bif i.beq 17 then some ⟨[(38, (.ty .bool))], [], [], []⟩ else bif i.beq 21 then some ⟨[(63, (.ty .bool))], [], [], []⟩ else bif i.beq 32 then some ⟨[(13, (.ty (.int .i64)))], [(5, (.one (.ty (.arr 32 (.int .i64)))))], [], []⟩ else bif i.beq 42 then some ⟨[(14, (.ty (.int .i64))), (15, (.ty (.int .i64)))], [(3, (.one (.segs [(.ty (.arr 44 (.pair (.int .u64) .bool))), (.ty (.arr 32 (.int .i64))), (.sla 6 .no)])))], [4], [⟨true, (.many (.pair (.int .i64) (.int .i64)))⟩]⟩ else bif i.beq 44 then some ⟨[(98, (.ty .bool))], [], [], []⟩ else bif i.beq 47 then some ⟨[(14, (.ty (.int .i64)))], [(3, (.one (.segs [(.ty (.arr 44 (.pair (.int .u64) .bool))), (.ty (.arr 32 (.int .i64))), (.sla 7 .no)])))], [6], [⟨true, (.many (.pair (.int .i64) (.int .i64)))⟩]⟩ else bif i.beq 54 then some ⟨[(18, (.ty (.int .i64)))], [(3, (.one (.segs [(.ty (.arr 44 (.pair (.int .u64) .bool))), (.ty (.arr 32 (.int .i64))), (.sla 7 .no)])))], [6], [⟨true, (.many (.pair (.int .i64) (.int .i64)))⟩]⟩ else bif i.beq 66 then some ⟨[(19, (.ty (.int .i64)))], [], [], []⟩ else none
def s3 : Sg := ⟨[(.ty (.arr 32 (.int .u64))), (.sla 0 .any), (.sla 1 .any)], [⟨false, (.many (.pair (.int .i64) (.pair (.int .i64) (.int .u64))))⟩, ⟨false, (.many (.int .u8))⟩], ⟨[(0, (.ty .bool))], [], [], []⟩⟩
def f3 (N : Nat) (x : s3.inp) : Option s3.res := fnS N K15 t3 ⟨h3, a3⟩ s3 x
def c3 : Ctr := ⟨s3, f3⟩
theorem gc3 : GoodC TBNm 3 c3 := good1 (T := TBNm) (f := 3) (K := K15) (c := c3) (F := t3) (nt := ⟨h3, a3⟩) noSpNm gk15 (by kernel_rfl) rfl (by kernel_rfl) (by kernel_rfl) (by intro N x; kernel_rfl)
def K3 : CTab := fun f svs => bif f.beq 3 then some c3 else K15 f svs
theorem gk3 : GoodK TBNm K3 := by
  intro f svs c h
  unfold K3 at h
  cases hf : f.beq 3 with
  | false => rw [hf] at h; exact gk15 f svs c h
  | true =>
    obtain rfl := Nat.eq_of_beq_eq_true hf
    rw [hf, cond_true] at h
    obtain rfl := Option.some.inj h
    exact ⟨gc3, by kernel_rfl⟩
def h4 (t : Nat) : Option Hn :=
  none
def a4 (i : Nat) : Option Shape :=
  bif i.beq 11 then some ⟨[(8, (.ty (.int .i64))), (9, (.ty (.int .i64)))], [(2, (.one (.segs [(.ty (.arr 32 (.int .u64)))]))), (3, (.one (.segs [(.ty (.arr 44 (.pair (.int .u64) .bool))), (.ty (.arr 32 (.int .i64))), (.sla 4 .no)])))], [], [⟨true, (.many (.pair (.int .i64) (.int .i64)))⟩]⟩ else bif i.beq 13 then some ⟨[(31, (.ty .bool))], [], [], []⟩ else bif i.beq 16 then some ⟨[(8, (.ty (.int .i64)))], [(2, (.one (.segs [(.ty (.arr 32 (.int .u64)))]))), (3, (.one (.segs [(.ty (.arr 44 (.pair (.int .u64) .bool))), (.ty (.arr 32 (.int .i64))), (.sla 5 .no)])))], [4], [⟨true, (.many (.pair (.int .i64) (.int .i64)))⟩]⟩ else bif i.beq 32 then some ⟨[(76, (.ty .bool))], [], [], []⟩ else bif i.beq 35 then some ⟨[(8, (.ty (.int .i64)))], [(3, (.one (.segs [(.ty (.arr 44 (.pair (.int .u64) .bool))), (.ty (.arr 32 (.int .i64))), (.sla 7 .no)])))], [6], [⟨true, (.many (.pair (.int .i64) (.int .i64)))⟩]⟩ else bif i.beq 46 then some ⟨[(8, (.ty (.int .i64)))], [(3, (.one (.segs [(.ty (.arr 44 (.pair (.int .u64) .bool))), (.ty (.arr 32 (.int .i64))), (.sla 5 .no)])))], [4], [⟨true, (.many (.pair (.int .i64) (.int .i64)))⟩]⟩ else bif i.beq 55 then some ⟨[(6, (.ty .bool))], [], [], []⟩ else none
def s4 : Sg := ⟨[(.ty (.arr 32 (.int .u64))), (.sla 0 .any), (.sla 1 .any)], [⟨false, (.many (.int .u8))⟩, ⟨false, (.many (.int .u64))⟩], ⟨[(0, (.ty .bool))], [], [], []⟩⟩
def f4 (N : Nat) (x : s4.inp) : Option s4.res := fnS N K3 t4 ⟨h4, a4⟩ s4 x
def c4 : Ctr := ⟨s4, f4⟩
theorem gc4 : GoodC TBNm 4 c4 := good1 (T := TBNm) (f := 4) (K := K3) (c := c4) (F := t4) (nt := ⟨h4, a4⟩) noSpNm gk3 (by kernel_rfl) rfl (by kernel_rfl) (by kernel_rfl) (by intro N x; kernel_rfl)
def K4 : CTab := fun f svs => bif f.beq 4 then some c4 else K3 f svs
theorem gk4 : GoodK TBNm K4 := by
  intro f svs c h
  unfold K4 at h
  cases hf : f.beq 4 with
  | false => rw [hf] at h; exact gk3 f svs c h
  | true =>
    obtain rfl := Nat.eq_of_beq_eq_true hf
    rw [hf, cond_true] at h
    obtain rfl := Option.some.inj h
    exact ⟨gc4, by kernel_rfl⟩
def h28 (t : Nat) : Option Hn :=
  bif t.beq 5 then some (.parts [some (.arr 32 (.pair (.int .i64) (.pair (.int .i64) (.pair (.int .u64) .bool)))), none]) else bif t.beq 18 then some (.ty (.pair (.int .i64) (.pair (.int .i64) (.pair (.int .u64) .bool)))) else none
def a28 (i : Nat) : Option Shape :=
  bif i.beq 5 then some ⟨[(4, (.ty (.int .i64)))], [(1, (.one (.segs [(.ty (.arr 32 (.pair (.int .i64) (.pair (.int .i64) (.pair (.int .u64) .bool))))), .nils])))], [], []⟩ else none
def s28 : Sg := ⟨[(.ty (.arr 32 (.int .u64)))], [], ⟨[(0, (.ptr 0))], [], [], [⟨true, (.one (.segs [(.ty (.arr 32 (.pair (.int .i64) (.pair (.int .i64) (.pair (.int .u64) .bool))))), .nils]))⟩]⟩⟩
def f28 (N : Nat) (x : s28.inp) : Option s28.res := fnS N K4 t28 ⟨h28, a28⟩ s28 x
def c28 : Ctr := ⟨s28, f28⟩
theorem gc28 : GoodC TBNm 28 c28 := good0 (T := TBNm) (f := 28) (K := K4) (c := c28) (F := t28) (nt := ⟨h28, a28⟩) noSpNm gk4 (by kernel_rfl) rfl (by kernel_rfl) (by intro N x; kernel_rfl)
def K28 : CTab := fun f svs => bif f.beq 28 then some c28 else K4 f svs
theorem gk28 : GoodK TBNm K28 := by
  intro f svs c h
  unfold K28 at h
  cases hf : f.beq 28 with
  | false => rw [hf] at h; exact gk4 f svs c h
  | true =>
    obtain rfl := Nat.eq_of_beq_eq_true hf
    rw [hf, cond_true] at h
    obtain rfl := Option.some.inj h
    exact ⟨gc28, by kernel_rfl⟩
def h60 (t : Nat) : Option Hn :=
  bif t.beq 4 then some (.ty (.pair (.int .i64) (.pair (.int .i64) (.pair (.int .u64) .bool)))) else bif t.beq 53 then some (.ty (.pair (.int .i64) (.pair (.int .i64) (.pair (.int .u64) .bool)))) else none
def a60 (i : Nat) : Option Shape :=
  bif i.beq 4 then some ⟨[(6, (.ty (.int .i64)))], [], [], []⟩ else bif i.beq 16 then some ⟨[(7, (.ty (.int .i64)))], [], [], []⟩ else none
def s60 : Sg := ⟨[(.ptr 0), (.ty (.int .i64))], [⟨false, (.one (.segs [(.ty (.arr 32 (.pair (.int .i64) (.pair (.int .i64) (.pair (.int .u64) .bool))))), (.sla 1 .yes)]))⟩, ⟨false, (.many (.pair (.int .i64) (.pair (.int .i64) (.pair (.int .u64) .bool))))⟩], ⟨[(0, (.tup [(.ty (.pair (.int .i64) (.pair (.int .i64) (.pair (.int .u64) .bool)))), (.ty .bool)]))], [], [], []⟩⟩
def f60 (N : Nat) (x : s60.inp) : Option s60.res := fnS N K28 t60 ⟨h60, a60⟩ s60 x
def c60 : Ctr := ⟨s60, f60⟩
theorem gc60 : GoodC TBNm 60 c60 := good1 (T := TBNm) (f := 60) (K := K28) (c := c60) (F := t60) (nt := ⟨h60, a60⟩) noSpNm gk28 (by kernel_rfl) rfl (by kernel_rfl) (by kernel_rfl) (by intro N x; kernel_rfl)
def K60 : CTab := fun f svs => bif f.beq 60 then some c60 else K28 f svs
theorem gk60 : GoodK TBNm K60 := by
  intro f svs c h
  unfold K60 at h
  cases hf : f.beq 60 with
  | false => rw [hf] at h; exact gk28 f svs c h
  | true =>
    obtain rfl := Nat.eq_of_beq_eq_true hf
    rw [hf, cond_true] at h
    obtain rfl := Option.some.inj h
    exact ⟨gc60, by kernel_rfl⟩
def h29 (t : Nat) : Option Hn :=
  bif t.beq 7 then some (.ty (.pair (.int .i64) (.pair (.int .i64) (.pair (.int .u64) .bool)))) else bif t.beq 34 then some (.ty (.pair (.int .i64) (.pair (.int .i64) (.pair (.int .u64) .bool)))) else bif t.beq 35 then some (.ty (.pair (.int .i64) (.pair (.int .i64) (.pair (.int .u64) .bool)))) else none
def a29 (i : Nat) : Option Shape :=
  bif i.beq 2 then some ⟨[(14, (.ty .bool))], [], [], []⟩ else bif i.beq 8 then some ⟨[(6, (.ty (.int .i64)))], [], [], []⟩ else none
def s29 : Sg := ⟨[(.ptr 0), (.ty (.int .i64))], [⟨true, (.one (.segs [(.ty (.arr 32 (.pair (.int .i64) (.pair (.int .i64) (.pair (.int .u64) .bool))))), (.sla 1 .yes)]))⟩, ⟨true, (.many (.pair (.int .i64) (.pair (.int .i64) (.pair (.int .u64) .bool))))⟩], ⟨[(0, (.tup [(.ty (.int .i64)), (.ty .bool)]))], [(0, (.one (.segs [(.ty (.arr 32 (.pair (.int .i64) (.pair (.int .i64) (.pair (.int .u64) .bool))))), (.sla 2 .yes)])))], [1], [⟨true, (.many (.pair (.int .i64) (.pair (.int .i64) (.pair (.int .u64) .bool))))⟩]⟩⟩
def f29 (N : Nat) (x : s29.inp) : Option s29.res := fnS N K60 t29 ⟨h29, a29⟩ s29 x
def c29 : Ctr := ⟨s29, f29⟩
theorem gc29 : GoodC TBNm 29 c29 := good0 (T := TBNm) (f := 29) (K := K60) (c := c29) (F := t29) (nt := ⟨h29, a29⟩) noSpNm gk60 (by kernel_rfl) rfl (by kernel_rfl) (by intro N x; kernel_rfl)
def K29 : CTab := fun f svs => bif f.beq 29 then some c29 else K60 f svs
theorem gk29 : GoodK TBNm K29 := by
  intro f svs c h
  unfold K29 at h
  cases hf : f.beq 29 with
  | false => rw [hf] at h; exact gk60 f svs c h
  | true =>
    obtain rfl := Nat.eq_of_beq_eq_true hf
    rw [hf, cond_true] at h
    obtain rfl := Option.some.inj h
    exact ⟨gc29, by kernel_rfl⟩
def h30 (t : Nat) : Option Hn :=
  none
def a30 (i : Nat) : Option Shape :=
  bif i.beq 4 then some ⟨[(7, (.ty (.int .i64)))], [], [], []⟩ else none
def s30 : Sg := ⟨[(.ptr 0), (.ty (.int .i64)), (.ty (.int .u64))], [⟨true, (.one (.segs [(.ty (.arr 32 (.pair (.int .i64) (.pair (.int .i64) (.pair (.int .u64) .bool))))), (.sla 1 .yes)]))⟩, ⟨true, (.many (.pair (.int .i64) (.pair (.int .i64) (.pair (.int .u64) .bool))))⟩], ⟨[(0, (.ty .bool))], [(0, (.one (.segs [(.ty (.arr 32 (.pair (.int .i64) (.pair (.int .i64) (.pair (.int .u64) .bool))))), (.sla 2 .yes)])))], [1], [⟨true, (.many (.pair (.int .i64) (.pair (.int .i64) (.pair (.int .u64) .bool))))⟩]⟩⟩
def f30 (N : Nat) (x : s30.inp) : Option s30.res := fnS N K29 t30 ⟨h30, a30⟩ s30 x
def c30 : Ctr := ⟨s30, f30⟩
theorem gc30 : GoodC TBNm 30 c30 := good0 (T := TBNm) (f := 30) (K := K29) (c := c30) (F := t30) (nt := ⟨h30, a30⟩) noSpNm gk29 (by kernel_rfl) rfl (by kernel_rfl) (by intro N x; kernel_rfl)
def K30 : CTab := fun f svs => bif f.beq 30 then some c30 else K29 f svs
theorem gk30 : GoodK TBNm K30 := by
  intro f svs c h
  unfold K30 at h
  cases hf : f.beq 30 with
  | false => rw [hf] at h; exact gk29 f svs c h
  | true =>
    obtain rfl := Nat.eq_of_beq_eq_true hf
    rw [hf, cond_true] at h
    obtain rfl := Option.some.inj h
    exact ⟨gc30, by kernel_rfl⟩
def h31 (t : Nat) : Option Hn :=
  none
def a31 (i : Nat) : Option Shape :=
  bif i.beq 2 then some ⟨[(18, (.ty .bool))], [], [], []⟩ else none
def s31 : Sg := ⟨[(.ptr 0)], [⟨true, (.one (.segs [(.ty (.arr 32 (.pair (.int .i64) (.pair (.int .i64) (.pair (.int .u64) .bool))))), (.sla 1 .yes)]))⟩, ⟨true, (.many (.pair (.int .i64) (.pair (.int .i64) (.pair (.int .u64) .bool))))⟩], ⟨[(0, (.ty .bool))], [(0, (.one (.segs [(.ty (.arr 32 (.pair (.int .i64) (.pair (.int .i64) (.pair (.int .u64) .bool))))), (.sla 2 .yes)])))], [1], [⟨true, (.many (.pair (.int .i64) (.pair (.int .i64) (.pair (.int .u64) .bool))))⟩]⟩⟩
def f31 (N : Nat) (x : s31.inp) : Option s31.res := fnS N K30 t31 ⟨h31, a31⟩ s31 x
def c31 : Ctr := ⟨s31, f31⟩
theorem gc31 : GoodC TBNm 31 c31 := good0 (T := TBNm) (f := 31) (K := K30) (c := c31) (F := t31) (nt := ⟨h31, a31⟩) noSpNm gk30 (by kernel_rfl) rfl (by kernel_rfl) (by intro N x; kernel_rfl)
def K31 : CTab := fun f svs => bif f.beq 31 then some c31 else K30 f svs
theorem gk31 : GoodK TBNm K31 := by
  intro f svs c h
  unfold K31 at h
  cases hf : f.beq 31 with
  | false => rw [hf] at h; exact gk30 f svs c h
  | true =>
    obtain rfl := Nat.eq_of_beq_eq_true hf
    rw [hf, cond_true] at h
    obtain rfl := Option.some.inj h
    exact ⟨gc31, by kernel_rfl⟩
def h32 (t : Nat) : Option Hn :=
  none
def a32 (i : Nat) : Option Shape :=
  none
def s32 : Sg := ⟨[(.ptr 0)], [⟨true, (.one (.segs [(.ty (.arr 32 (.pair (.int .i64) (.pair (.int .i64) (.pair (.int .u64) .bool))))), (.sla 1 .yes)]))⟩, ⟨true, (.many (.pair (.int .i64) (.pair (.int .i64) (.pair (.int .u64) .bool))))⟩], ⟨[(0, (.ty .bool))], [(0, (.one (.segs [(.ty (.arr 32 (.pair (.int .i64) (.pair (.int .i64) (.pair (.int .u64) .bool))))), (.sla 2 .yes)])))], [1], [⟨true, (.many (.pair (.int .i64) (.pair (.int .i64) (.pair (.int .u64) .bool))))⟩]⟩⟩
def f32 (N : Nat) (x : s32.inp) : Option s32.res := fnS N K31 t32 ⟨h32, a32⟩ s32 x
def c32 : Ctr := ⟨s32, f32⟩
theorem gc32 : GoodC TBNm 32 c32 := good0 (T := TBNm) (f := 32) (K := K31) (c := c32) (F := t32) (nt := ⟨h32, a32⟩) noSpNm gk31 (by kernel_rfl) rfl (by kernel_rfl) (by intro N x; kernel_rfl)
def K32 : CTab := fun f svs => bif f.beq 32 then some c32 else K31 f svs
theorem gk32 : GoodK TBNm K32 := by
  intro f svs c h
  unfold K32 at h
  cases hf : f.beq 32 with
  | false => rw [hf] at h; exact gk31 f svs c h
  | true =>
    obtain rfl := Nat.eq_of_beq_eq_true hf
    rw [hf, cond_true] at h
    obtain rfl := Option.some.inj h
    exact ⟨gc32, by kernel_rfl⟩
def h33 (t : Nat) : Option Hn :=
  none
def a33 (i : Nat) : Option Shape :=
  bif i.beq 2 then some ⟨[(12, (.ty .bool))], [], [], []⟩ else bif i.beq 9 then some ⟨[(5, (.ty (.int .i64))), (6, (.ty (.int .i64)))], [], [], []⟩ else bif i.beq 14 then some ⟨[(5, (.ty (.int .i64)))], [], [], []⟩ else none
def s33 : Sg := ⟨[(.ptr 0), (.ty (.int .i64))], [⟨false, (.one (.segs [(.ty (.arr 32 (.pair (.int .i64) (.pair (.int .i64) (.pair (.int .u64) .bool))))), (.sla 1 .yes)]))⟩, ⟨false, (.many (.pair (.int .i64) (.pair (.int .i64) (.pair (.int .u64) .bool))))⟩], ⟨[(0, (.ty (.int .i64)))], [], [], []⟩⟩
def f33 (N : Nat) (x : s33.inp) : Option s33.res := fnS N K32 t33 ⟨h33, a33⟩ s33 x
def c33 : Ctr := ⟨s33, f33⟩
theorem gc33 : GoodC TBNm 33 c33 := good1 (T := TBNm) (f := 33) (K := K32) (c := c33) (F := t33) (nt := ⟨h33, a33⟩) noSpNm gk32 (by kernel_rfl) rfl (by kernel_rfl) (by kernel_rfl) (by intro N x; kernel_rfl)
def K33 : CTab := fun f svs => bif f.beq 33 then some c33 else K32 f svs
theorem gk33 : GoodK TBNm K33 := by
  intro f svs c h
  unfold K33 at h
  cases hf : f.beq 33 with
  | false => rw [hf] at h; exact gk32 f svs c h
  | true =>
    obtain rfl := Nat.eq_of_beq_eq_true hf
    rw [hf, cond_true] at h
    obtain rfl := Option.some.inj h
    exact ⟨gc33, by kernel_rfl⟩
def h34 (t : Nat) : Option Hn :=
  bif t.beq 2 then some (.ty (.arr 32 (.int .u64))) else bif t.beq 3 then some (.ty (.arr 32 (.int .u64))) else none
def a34 (i : Nat) : Option Shape :=
  bif i.beq 5 then some ⟨[(4, (.ty (.int .i64)))], [(3, (.one (.ty (.arr 32 (.int .u64)))))], [], []⟩ else none
def s34 : Sg := ⟨[(.ptr 0)], [⟨false, (.one (.segs [(.ty (.arr 32 (.pair (.int .i64) (.pair (.int .i64) (.pair (.int .u64) .bool))))), (.sla 1 .yes)]))⟩, ⟨false, (.many (.pair (.int .i64) (.pair (.int .i64) (.pair (.int .u64) .bool))))⟩], ⟨[(0, (.ty (.arr 32 (.int .u64))))], [], [], []⟩⟩
def f34 (N : Nat) (x : s34.inp) : Option s34.res := fnS N K33 t34 ⟨h34, a34⟩ s34 x
def c34 : Ctr := ⟨s34, f34⟩
theorem gc34 : GoodC TBNm 34 c34 := good1 (T := TBNm) (f := 34) (K := K33) (c := c34) (F := t34) (nt := ⟨h34, a34⟩) noSpNm gk33 (by kernel_rfl) rfl (by kernel_rfl) (by kernel_rfl) (by intro N x; kernel_rfl)
def K34 : CTab := fun f svs => bif f.beq 34 then some c34 else K33 f svs
theorem gk34 : GoodK TBNm K34 := by
  intro f svs c h
  unfold K34 at h
  cases hf : f.beq 34 with
  | false => rw [hf] at h; exact gk33 f svs c h
  | true =>
    obtain rfl := Nat.eq_of_beq_eq_true hf
    rw [hf, cond_true] at h
    obtain rfl := Option.some.inj h
    exact ⟨gc34, by kernel_rfl⟩
def h35 (t : Nat) : Option Hn :=
  none
def a35 (i : Nat) : Option Shape :=
  bif i.beq 2 then some ⟨[(30, (.ty .bool))], [], [], []⟩ else none
def s35 : Sg := ⟨[(.ptr 0), (.ty (.int .i64))], [⟨false, (.one (.segs [(.ty (.arr 44 (.pair (.int .u64) .bool))), (.ty (.arr 32 (.int .i64))), (.sla 1 .no)]))⟩, ⟨false, (.many (.pair (.int .i64) (.int .i64)))⟩], ⟨[(0, (.tup [(.ty (.int .u64)), (.ty .bool)]))], [], [], []⟩⟩
def f35 (N : Nat) (x : s35.inp) : Option s35.res := fnS N K34 t35 ⟨h35, a35⟩ s35 x
def c35 : Ctr := ⟨s35, f35⟩
theorem gc35 : GoodC TBNm 35 c35 := good1 (T := TBNm) (f := 35) (K := K34) (c := c35) (F := t35) (nt := ⟨h35, a35⟩) noSpNm gk34 (by kernel_rfl) rfl (by kernel_rfl) (by kernel_rfl) (by intro N x; kernel_rfl)
def K35 : CTab := fun f svs => bif f.beq 35 then some c35 else K34 f svs
theorem gk35 : GoodK TBNm K35 := by
  intro f svs c h
  unfold K35 at h
  cases hf : f.beq 35 with
  | false => rw [hf] at h; exact gk34 f svs c h
  | true =>
    obtain rfl := Nat.eq_of_beq_eq_true hf
    rw [hf, cond_true] at h
    obtain rfl := Option.some.inj h
    exact ⟨gc35, by kernel_rfl⟩
def h36 (t : Nat) : Option Hn :=
  bif t.beq 6 then some (.ty (.pair (.int .i64) (.pair (.int .i64) (.pair (.int .u64) .bool)))) else none
def a36 (i : Nat) : Option Shape :=
  bif i.beq 3 then some ⟨[(20, (.ty .bool))], [], [], []⟩ else none
def s36 : Sg := ⟨[(.ptr 0), (.ty (.int .i64))], [⟨false, (.one (.segs [(.ty (.arr 32 (.pair (.int .i64) (.pair (.int .i64) (.pair (.int .u64) .bool))))), (.sla 1 .yes)]))⟩, ⟨false, (.many (.pair (.int .i64) (.pair (.int .i64) (.pair (.int .u64) .bool))))⟩], ⟨[(0, (.tup [(.ty (.int .u64)), (.ty .bool)]))], [], [], []⟩⟩
def f36 (N : Nat) (x : s36.inp) : Option s36.res := fnS N K35 t36 ⟨h36, a36⟩ s36 x
def c36 : Ctr := ⟨s36, f36⟩
theorem gc36 : GoodC TBNm 36 c36 := good1 (T := TBNm) (f := 36) (K := K35) (c := c36) (F := t36) (nt := ⟨h36, a36⟩) noSpNm gk35 (by kernel_rfl) rfl (by kernel_rfl) (by kernel_rfl) (by intro N x; kernel_rfl)
def K36 : CTab := fun f svs => bif f.beq 36 then some c36 else K35 f svs
theorem gk36 : GoodK TBNm K36 := by
  intro f svs c h
  unfold K36 at h
  cases hf : f.beq 36 with
  | false => rw [hf] at h; exact gk35 f svs c h
  | true =>
    obtain rfl := Nat.eq_of_beq_eq_true hf
    rw [hf, cond_true] at h
    obtain rfl := Option.some.inj h
    exact ⟨gc36, by kernel_rfl⟩
def h6 (t : Nat) : Option Hn :=
  bif t.beq 8 then some (.ty (.pair (.int .i64) (.pair (.int .i64) (.int .u64)))) else none
def a6 (i : Nat) : Option Shape :=
  bif i.beq 9 then some ⟨[(7, (.ty (.int .i64)))], [(2, (.one (.segs [(.ty (.arr 44 (.pair (.int .u64) .bool))), (.ty (.arr 32 (.int .i64))), (.sla 4 .no)]))), (3, (.one (.segs [(.ty (.arr 32 (.pair (.int .i64) (.pair (.int .i64) (.pair (.int .u64) .bool))))), (.sla 5 .yes)])))], [], [⟨true, (.many (.pair (.int .i64) (.int .i64)))⟩, ⟨true, (.many (.pair (.int .i64) (.pair (.int .i64) (.pair (.int .u64) .bool))))⟩]⟩ else bif i.beq 11 then some ⟨[(32, (.ty .bool))], [], [], []⟩ else bif i.beq 17 then some ⟨[(9, (.ty (.int .i64)))], [], [], []⟩ else bif i.beq 22 then some ⟨[], [(2, (.one (.segs [(.ty (.arr 44 (.pair (.int .u64) .bool))), (.ty (.arr 32 (.int .i64))), (.sla 7 .no)]))), (3, (.one (.segs [(.ty (.arr 32 (.pair (.int .i64) (.pair (.int .i64) (.pair (.int .u64) .bool))))), (.sla 8 .yes)])))], [4, 5], [⟨true, (.many (.pair (.int .i64) (.int .i64)))⟩, ⟨true, (.many (.pair (.int .i64) (.pair (.int .i64) (.pair (.int .u64) .bool))))⟩]⟩ else bif i.beq 27 then some ⟨[(83, (.ty .bool))], [], [], []⟩ else bif i.beq 50 then some ⟨[(151, (.ty .bool))], [], [], []⟩ else bif i.beq 56 then some ⟨[(14, (.ty (.int .i64)))], [], [], []⟩ else bif i.beq 64 then some ⟨[(184, (.ty .bool))], [], [], []⟩ else none
def s6 : Sg := ⟨[(.ty (.arr 32 (.int .u64))), (.sla 0 .any)], [⟨false, (.many (.pair (.int .i64) (.pair (.int .i64) (.int .u64))))⟩], ⟨[(0, (.ty .bool))], [], [], []⟩⟩
def f6 (N : Nat) (x : s6.inp) : Option s6.res := fnS N K36 t6 ⟨h6, a6⟩ s6 x
def c6 : Ctr := ⟨s6, f6⟩
theorem gc6 : GoodC TBNm 6 c6 := good1 (T := TBNm) (f := 6) (K := K36) (c := c6) (F := t6) (nt := ⟨h6, a6⟩) noSpNm gk36 (by kernel_rfl) rfl (by kernel_rfl) (by kernel_rfl) (by intro N x; kernel_rfl)
def K6 : CTab := fun f svs => bif f.beq 6 then some c6 else K36 f svs
theorem gk6 : GoodK TBNm K6 := by
  intro f svs c h
  unfold K6 at h
  cases hf : f.beq 6 with
  | false => rw [hf] at h; exact gk36 f svs c h
  | true =>
    obtain rfl := Nat.eq_of_beq_eq_true hf
    rw [hf, cond_true] at h
    obtain rfl := Option.some.inj h
    exact ⟨gc6, by kernel_rfl⟩
end Go.Proofs.Ytipdancojcdioaa
