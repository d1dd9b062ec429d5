/- Contracts of functions, by their bodies and shapes. No condition. -/
import Derived.Test.YtipdancojcdioaaShR
import Derived.Test.YtipdancojcdioaaTabLb
import Derived.KernelRfl
namespace Go.Proofs.Ytipdancojcdioaa
open Go Go.Ev Go.Sh
set_option maxRecDepth 100000
set_option linter.unusedVariables false
theorem noSpLb : NoSp TBLb := fun _ _ => rfl
def K0Lb : CTab := fun _ _ => none
theorem gk0Lb : GoodK TBLb K0Lb := fun _ _ _ h => by cases h
def h72 (t : Nat) : Option Hn :=
  none
def a72 (i : Nat) : Option Shape :=
  bif i.beq 1 then some ⟨[(4, (.ty .bool))], [], [], []⟩ else none
def s72 : Sg := ⟨[(.sla 0 .any), (.ty (.int .i64))], [⟨false, (.many (.pair (.int .i64) (.pair (.int .i64) (.pair (.int .i64) (.pair .bool (.pair (.int .i64) (.pair .bool (.pair (.int .i64) (.pair .bool (.pair (.int .u64) (.pair .bool (.arr 8 (.int .i64)))))))))))))⟩], ⟨[(0, (.ty .bool))], [], [], []⟩⟩
def f72 (N : Nat) (x : s72.inp) : Option s72.res := fnS N K0Lb t72 ⟨h72, a72⟩ s72 x
def c72 : Ctr := ⟨s72, f72⟩
theorem gc72 : GoodC TBLb 72 c72 := good1 (T := TBLb) (f := 72) (K := K0Lb) (c := c72) (F := t72) (nt := ⟨h72, a72⟩) noSpLb gk0Lb (by kernel_rfl) rfl (by kernel_rfl) (by kernel_rfl) (by intro N x; kernel_rfl)
def K72 : CTab := fun f svs => bif f.beq 72 then some c72 else K0Lb f svs
theorem gk72 : GoodK TBLb K72 := by
  intro f svs c h
  unfold K72 at h
  cases hf : f.beq 72 with
  | false => rw [hf] at h; exact gk0Lb f svs c h
  | true =>
    obtain rfl := Nat.eq_of_beq_eq_true hf
    rw [hf, cond_true] at h
    obtain rfl := Option.some.inj h
    exact ⟨gc72, by kernel_rfl⟩
def h57 (t : Nat) : Option Hn :=
  none
def a57 (i : Nat) : Option Shape :=
  bif i.beq 3 then some ⟨[(3, (.ty .bool))], [], [], []⟩ else none
def s57 : Sg := ⟨[(.ty (.int .i64))], [], ⟨[(0, (.ty (.int .i64)))], [], [], []⟩⟩
def f57 (N : Nat) (x : s57.inp) : Option s57.res := fnS N K72 t57 ⟨h57, a57⟩ s57 x
def c57 : Ctr := ⟨s57, f57⟩
theorem gc57 : GoodC TBLb 57 c57 := good2 (T := TBLb) (f := 57) (K := K72) (c := c57) (F := t57) (nt := ⟨h57, a57⟩) noSpLb gk72 (by kernel_rfl) rfl (by kernel_rfl) (by kernel_rfl) rfl (by kernel_rfl) (by intro N x; kernel_rfl)
def K57 : CTab := fun f svs => bif f.beq 57 then some c57 else K72 f svs
theorem gk57 : GoodK TBLb K57 := by
  intro f svs c h
  unfold K57 at h
  cases hf : f.beq 57 with
  | false => rw [hf] at h; exact gk72 f svs c h
  | true =>
    obtain rfl := Nat.eq_of_beq_eq_true hf
    rw [hf, cond_true] at h
    obtain rfl := Option.some.inj h
    exact ⟨gc57, by kernel_rfl⟩
def h73 (t : Nat) : Option Hn :=
  none
def a73 (i : Nat) : Option Shape :=
  none
def s73 : Sg := ⟨[(.ty (.pair (.int .i64) (.pair (.int .i64) (.pair (.int .i64) (.pair .bool (.pair (.int .i64) (.pair .bool (.pair (.int .i64) (.pair .bool (.pair (.int .u64) (.pair .bool (.arr 8 (.int .i64)))))))))))))], [], ⟨[(0, (.ty .bool))], [], [], []⟩⟩
def f73 (N : Nat) (x : s73.inp) : Option s73.res := fnS N K57 t73 ⟨h73, a73⟩ s73 x
def c73 : Ctr := ⟨s73, f73⟩
theorem gc73 : GoodC TBLb 73 c73 := good2 (T := TBLb) (f := 73) (K := K57) (c := c73) (F := t73) (nt := ⟨h73, a73⟩) noSpLb gk57 (by kernel_rfl) rfl (by kernel_rfl) (by kernel_rfl) rfl (by kernel_rfl) (by intro N x; kernel_rfl)
def K73 : CTab := fun f svs => bif f.beq 73 then some c73 else K57 f svs
theorem gk73 : GoodK TBLb K73 := by
  intro f svs c h
  unfold K73 at h
  cases hf : f.beq 73 with
  | false => rw [hf] at h; exact gk57 f svs c h
  | true =>
    obtain rfl := Nat.eq_of_beq_eq_true hf
    rw [hf, cond_true] at h
    obtain rfl := Option.some.inj h
    exact ⟨gc73, by kernel_rfl⟩
def h74 (t : Nat) : Option Hn :=
  none
def a74 (i : Nat) : Option Shape :=
  none
def s74 : Sg := ⟨[(.ty (.pair (.int .i64) (.pair (.int .i64) (.pair (.int .i64) (.pair .bool (.pair (.int .i64) (.pair .bool (.pair (.int .i64) (.pair .bool (.pair (.int .u64) (.pair .bool (.arr 8 (.int .i64)))))))))))))], [], ⟨[(0, (.ty .bool))], [], [], []⟩⟩
def f74 (N : Nat) (x : s74.inp) : Option s74.res := fnS N K73 t74 ⟨h74, a74⟩ s74 x
def c74 : Ctr := ⟨s74, f74⟩
theorem gc74 : GoodC TBLb 74 c74 := good2 (T := TBLb) (f := 74) (K := K73) (c := c74) (F := t74) (nt := ⟨h74, a74⟩) noSpLb gk73 (by kernel_rfl) rfl (by kernel_rfl) (by kernel_rfl) rfl (by kernel_rfl) (by intro N x; kernel_rfl)
def K74 : CTab := fun f svs => bif f.beq 74 then some c74 else K73 f svs
theorem gk74 : GoodK TBLb K74 := by
  intro f svs c h
  unfold K74 at h
  cases hf : f.beq 74 with
  | false => rw [hf] at h; exact gk73 f svs c h
  | true =>
    obtain rfl := Nat.eq_of_beq_eq_true hf
    rw [hf, cond_true] at h
    obtain rfl := Option.some.inj h
    exact ⟨gc74, by kernel_rfl⟩
def h75 (t : Nat) : Option Hn :=
  none
def a75 (i : Nat) : Option Shape :=
  none
def s75 : Sg := ⟨[(.ty (.pair (.int .i64) (.pair (.int .i64) (.pair (.int .i64) (.pair .bool (.pair (.int .i64) (.pair .bool (.pair (.int .i64) (.pair .bool (.pair (.int .u64) (.pair .bool (.arr 8 (.int .i64)))))))))))))], [], ⟨[(0, (.ty .bool))], [], [], []⟩⟩
def f75 (N : Nat) (x : s75.inp) : Option s75.res := fnS N K74 t75 ⟨h75, a75⟩ s75 x
def c75 : Ctr := ⟨s75, f75⟩
theorem gc75 : GoodC TBLb 75 c75 := good2 (T := TBLb) (f := 75) (K := K74) (c := c75) (F := t75) (nt := ⟨h75, a75⟩) noSpLb gk74 (by kernel_rfl) rfl (by kernel_rfl) (by kernel_rfl) rfl (by kernel_rfl) (by intro N x; kernel_rfl)
def K75 : CTab := fun f svs => bif f.beq 75 then some c75 else K74 f svs
theorem gk75 : GoodK TBLb K75 := by
  intro f svs c h
  unfold K75 at h
  cases hf : f.beq 75 with
  | false => rw [hf] at h; exact gk74 f svs c h
  | true =>
    obtain rfl := Nat.eq_of_beq_eq_true hf
    rw [hf, cond_true] at h
    obtain rfl := Option.some.inj h
    exact ⟨gc75, by kernel_rfl⟩
def h77 (t : Nat) : Option Hn :=
  none
def a77 (i : Nat) : Option Shape :=
  none
def s77 : Sg := ⟨[(.ty (.pair (.int .i64) (.pair (.int .i64) (.pair (.int .i64) (.pair .bool (.pair (.int .i64) (.pair .bool (.pair (.int .i64) (.pair .bool (.pair (.int .u64) (.pair .bool (.arr 8 (.int .i64)))))))))))))], [], ⟨[(0, (.ty .bool))], [], [], []⟩⟩
def f77 (N : Nat) (x : s77.inp) : Option s77.res := fnS N K75 t77 ⟨h77, a77⟩ s77 x
def c77 : Ctr := ⟨s77, f77⟩
theorem gc77 : GoodC TBLb 77 c77 := good2 (T := TBLb) (f := 77) (K := K75) (c := c77) (F := t77) (nt := ⟨h77, a77⟩) noSpLb gk75 (by kernel_rfl) rfl (by kernel_rfl) (by kernel_rfl) rfl (by kernel_rfl) (by intro N x; kernel_rfl)
def K77 : CTab := fun f svs => bif f.beq 77 then some c77 else K75 f svs
theorem gk77 : GoodK TBLb K77 := by
  intro f svs c h
  unfold K77 at h
  cases hf : f.beq 77 with
  | false => rw [hf] at h; exact gk75 f svs c h
  | true =>
    obtain rfl := Nat.eq_of_beq_eq_true hf
    rw [hf, cond_true] at h
    obtain rfl := Option.some.inj h
    exact ⟨gc77, by kernel_rfl⟩
def h45 (t : Nat) : Option Hn :=
  bif t.beq 7 then some (.ty (.pair (.int .i64) (.pair (.int .i64) (.pair (.int .i64) (.pair .bool (.pair (.int .i64) (.pair .bool (.pair (.int .i64) (.pair .bool (.pair (.int .u64) (.pair .bool (.arr 8 (.int .i64))))))))))))) else bif t.beq 11 then some (.ty (.pair (.int .i64) (.pair (.int .i64) (.pair (.int .i64) (.pair .bool (.pair (.int .i64) (.pair .bool (.pair (.int .i64) (.pair .bool (.pair (.int .u64) (.pair .bool (.arr 8 (.int .i64))))))))))))) else none
def a45 (i : Nat) : Option Shape :=
  bif i.beq 2 then some ⟨[(23, (.ty .bool))], [], [], []⟩ else bif i.beq 6 then some ⟨[(8, (.ty .bool))], [], [], []⟩ else bif i.beq 7 then some ⟨[(9, (.ty .bool))], [], [], []⟩ else bif i.beq 11 then some ⟨[(50, (.ty (.int .i64)))], [], [], []⟩ else bif i.beq 19 then some ⟨[(54, (.ty .bool))], [], [], []⟩ else bif i.beq 20 then some ⟨[(54, (.ty .bool))], [], [], []⟩ else bif i.beq 22 then some ⟨[(54, (.ty .bool))], [], [], []⟩ else bif i.beq 26 then some ⟨[(6, (.ty .bool))], [], [], []⟩ else none
def s45 : Sg := ⟨[(.sla 0 .any), (.ty (.int .i64)), (.ty .bool)], [⟨false, (.many (.pair (.int .i64) (.pair (.int .i64) (.pair (.int .i64) (.pair .bool (.pair (.int .i64) (.pair .bool (.pair (.int .i64) (.pair .bool (.pair (.int .u64) (.pair .bool (.arr 8 (.int .i64)))))))))))))⟩], ⟨[(0, (.ty .bool))], [], [], []⟩⟩
def f45 (N : Nat) (x : s45.inp) : Option s45.res := fnS N K77 t45 ⟨h45, a45⟩ s45 x
def c45 : Ctr := ⟨s45, f45⟩
theorem gc45 : GoodC TBLb 45 c45 := good1 (T := TBLb) (f := 45) (K := K77) (c := c45) (F := t45) (nt := ⟨h45, a45⟩) noSpLb gk77 (by kernel_rfl) rfl (by kernel_rfl) (by kernel_rfl) (by intro N x; kernel_rfl)
def K45 : CTab := fun f svs => bif f.beq 45 then some c45 else K77 f svs
theorem gk45 : GoodK TBLb K45 := by
  intro f svs c h
  unfold K45 at h
  cases hf : f.beq 45 with
  | false => rw [hf] at h; exact gk77 f svs c h
  | true =>
    obtain rfl := Nat.eq_of_beq_eq_true hf
    rw [hf, cond_true] at h
    obtain rfl := Option.some.inj h
    exact ⟨gc45, by kernel_rfl⟩
def h58 (t : Nat) : Option Hn :=
  none
def a58 (i : Nat) : Option Shape :=
  bif i.beq 4 then some ⟨[(4, (.ty .bool))], [], [], []⟩ else bif i.beq 11 then some ⟨[(8, (.ty .bool))], [], [], []⟩ else bif i.beq 18 then some ⟨[(12, (.ty .bool))], [], [], []⟩ else bif i.beq 29 then some ⟨[(18, (.ty .bool))], [], [], []⟩ else none
def s58 : Sg := ⟨[(.ty (.int .i64))], [], ⟨[(0, (.ty (.int .i64)))], [], [], []⟩⟩
def f58 (N : Nat) (x : s58.inp) : Option s58.res := fnS N K45 t58 ⟨h58, a58⟩ s58 x
def c58 : Ctr := ⟨s58, f58⟩
theorem gc58 : GoodC TBLb 58 c58 := good2 (T := TBLb) (f := 58) (K := K45) (c := c58) (F := t58) (nt := ⟨h58, a58⟩) noSpLb gk45 (by kernel_rfl) rfl (by kernel_rfl) (by kernel_rfl) rfl (by kernel_rfl) (by intro N x; kernel_rfl)
def K58 : CTab := fun f svs => bif f.beq 58 then some c58 else K45 f svs
theorem gk58 : GoodK TBLb K58 := by
  intro f svs c h
  unfold K58 at h
  cases hf : f.beq 58 with
  | false => rw [hf] at h; exact gk45 f svs c h
  | true =>
    obtain rfl := Nat.eq_of_beq_eq_true hf
    rw [hf, cond_true] at h
    obtain rfl := Option.some.inj h
    exact ⟨gc58, by kernel_rfl⟩
def h98 (t : Nat) : Option Hn :=
  none
def a98 (i : Nat) : Option Shape :=
  bif i.beq 1 then some ⟨[(4, (.ty .bool))], [], [], []⟩ else none
def s98 : Sg := ⟨[(.ty (.int .i64)), (.ty (.int .i64))], [], ⟨[(0, (.ty .bool))], [], [], []⟩⟩
def f98 (N : Nat) (x : s98.inp) : Option s98.res := fnS N K58 t98 ⟨h98, a98⟩ s98 x
def c98 : Ctr := ⟨s98, f98⟩
theorem gc98 : GoodC TBLb 98 c98 := good2 (T := TBLb) (f := 98) (K := K58) (c := c98) (F := t98) (nt := ⟨h98, a98⟩) noSpLb gk58 (by kernel_rfl) rfl (by kernel_rfl) (by kernel_rfl) rfl (by kernel_rfl) (by intro N x; kernel_rfl)
def K98 : CTab := fun f svs => bif f.beq 98 then some c98 else K58 f svs
theorem gk98 : GoodK TBLb K98 := by
  intro f svs c h
  unfold K98 at h
  cases hf : f.beq 98 with
  | false => rw [hf] at h; exact gk58 f svs c h
  | true =>
    obtain rfl := Nat.eq_of_beq_eq_true hf
    rw [hf, cond_true] at h
    obtain rfl := Option.some.inj h
    exact ⟨gc98, by kernel_rfl⟩
def h81 (t : Nat) : Option Hn :=
  none
def a81 (i : Nat) : Option Shape :=
  bif i.beq 2 then some ⟨[(21, (.ty .bool))], [], [], []⟩ else bif i.beq 9 then some ⟨[(9, (.ty .bool))], [], [], []⟩ else bif i.beq 10 then some ⟨[(9, (.ty .bool)), (23, (.ty (.int .i64)))], [], [], []⟩ else bif i.beq 19 then some ⟨[(9, (.ty .bool)), (27, (.ty (.int .i64)))], [], [], []⟩ else none
def s81 : Sg := ⟨[(.ty (.int .i64)), (.ty (.int .i64)), (.ty (.int .i64)), (.ty (.int .i64))], [], ⟨[(0, (.ty .bool))], [], [], []⟩⟩
def f81 (N : Nat) (x : s81.inp) : Option s81.res := fnS N K98 t81 ⟨h81, a81⟩ s81 x
def c81 : Ctr := ⟨s81, f81⟩
theorem gc81 : GoodC TBLb 81 c81 := good2 (T := TBLb) (f := 81) (K := K98) (c := c81) (F := t81) (nt := ⟨h81, a81⟩) noSpLb gk98 (by kernel_rfl) rfl (by kernel_rfl) (by kernel_rfl) rfl (by kernel_rfl) (by intro N x; kernel_rfl)
def K81 : CTab := fun f svs => bif f.beq 81 then some c81 else K98 f svs
theorem gk81 : GoodK TBLb K81 := by
  intro f svs c h
  unfold K81 at h
  cases hf : f.beq 81 with
  | false => rw [hf] at h; exact gk98 f svs c h
  | true =>
    obtain rfl := Nat.eq_of_beq_eq_true hf
    rw [hf, cond_true] at h
    obtain rfl := Option.some.inj h
    exact ⟨gc81, by kernel_rfl⟩
def h76 (t : Nat) : Option Hn :=
  none
def a76 (i : Nat) : Option Shape :=
  bif i.beq 1 then some ⟨[(4, (.ty .bool))], [], [], []⟩ else none
def s76 : Sg := ⟨[(.ty (.pair (.int .i64) (.pair (.int .i64) (.pair (.int .i64) (.pair .bool (.pair (.int .i64) (.pair .bool (.pair (.int .i64) (.pair .bool (.pair (.int .u64) (.pair .bool (.arr 8 (.int .i64))))))))))))), (.ty (.pair (.int .i64) (.pair (.int .i64) (.pair (.int .i64) (.pair .bool (.pair (.int .i64) (.pair .bool (.pair (.int .i64) (.pair .bool (.pair (.int .u64) (.pair .bool (.arr 8 (.int .i64)))))))))))))], [], ⟨[(0, (.ty .bool))], [], [], []⟩⟩
def f76 (N : Nat) (x : s76.inp) : Option s76.res := fnS N K81 t76 ⟨h76, a76⟩ s76 x
def c76 : Ctr := ⟨s76, f76⟩
theorem gc76 : GoodC TBLb 76 c76 := good2 (T := TBLb) (f := 76) (K := K81) (c := c76) (F := t76) (nt := ⟨h76, a76⟩) noSpLb gk81 (by kernel_rfl) rfl (by kernel_rfl) (by kernel_rfl) rfl (by kernel_rfl) (by intro N x; kernel_rfl)
def K76 : CTab := fun f svs => bif f.beq 76 then some c76 else K81 f svs
theorem gk76 : GoodK TBLb K76 := by
  intro f svs c h
  unfold K76 at h
  cases hf : f.beq 76 with
  | false => rw [hf] at h; exact gk81 f svs c h
  | true =>
    obtain rfl := Nat.eq_of_beq_eq_true hf
    rw [hf, cond_true] at h
    obtain rfl := Option.some.inj h
    exact ⟨gc76, by kernel_rfl⟩
def h82 (t : Nat) : Option Hn :=
  none
def a82 (i : Nat) : Option Shape :=
  bif i.beq 2 then some ⟨[(4, (.ty .bool))], [], [], []⟩ else none
def s82 : Sg := ⟨[(.ty (.pair (.int .i64) (.pair (.int .i64) (.pair (.int .i64) (.pair .bool (.pair (.int .i64) (.pair .bool (.pair (.int .i64) (.pair .bool (.pair (.int .u64) (.pair .bool (.arr 8 (.int .i64))))))))))))), (.ty (.int .i64))], [], ⟨[(0, (.ty .bool))], [], [], []⟩⟩
def f82 (N : Nat) (x : s82.inp) : Option s82.res := fnS N K76 t82 ⟨h82, a82⟩ s82 x
def c82 : Ctr := ⟨s82, f82⟩
theorem gc82 : GoodC TBLb 82 c82 := good1 (T := TBLb) (f := 82) (K := K76) (c := c82) (F := t82) (nt := ⟨h82, a82⟩) noSpLb gk76 (by kernel_rfl) rfl (by kernel_rfl) (by kernel_rfl) (by intro N x; kernel_rfl)
def K82 : CTab := fun f svs => bif f.beq 82 then some c82 else K76 f svs
theorem gk82 : GoodK TBLb K82 := by
  intro f svs c h
  unfold K82 at h
  cases hf : f.beq 82 with
  | false => rw [hf] at h; exact gk76 f svs c h
  | true =>
    obtain rfl := Nat.eq_of_beq_eq_true hf
    rw [hf, cond_true] at h
    obtain rfl := Option.some.inj h
    exact ⟨gc82, by kernel_rfl⟩
def h69 (t : Nat) : Option Hn :=
  none
def a69 (i : Nat) : Option Shape :=
  bif i.beq 2 then some ⟨[(47, (.ty .bool))], [], [], []⟩ else bif i.beq 8 then some ⟨[(7, (.ty (.int .i64)))], [], [], []⟩ else bif i.beq 14 then some ⟨[(72, (.ty .bool))], [], [], []⟩ else none
def s69 : Sg := ⟨[(.sla 0 .any), (.ty (.int .i64)), (.ty (.int .i64))], [⟨false, (.many (.pair (.int .i64) (.pair (.int .i64) (.pair (.int .i64) (.pair .bool (.pair (.int .i64) (.pair .bool (.pair (.int .i64) (.pair .bool (.pair (.int .u64) (.pair .bool (.arr 8 (.int .i64)))))))))))))⟩], ⟨[(0, (.ty (.int .i64)))], [], [], []⟩⟩
def f69 (N : Nat) (x : s69.inp) : Option s69.res := fnS N K82 t69 ⟨h69, a69⟩ s69 x
def c69 : Ctr := ⟨s69, f69⟩
theorem gc69 : GoodC TBLb 69 c69 := good1 (T := TBLb) (f := 69) (K := K82) (c := c69) (F := t69) (nt := ⟨h69, a69⟩) noSpLb gk82 (by kernel_rfl) rfl (by kernel_rfl) (by kernel_rfl) (by intro N x; kernel_rfl)
def K69 : CTab := fun f svs => bif f.beq 69 then some c69 else K82 f svs
theorem gk69 : GoodK TBLb K69 := by
  intro f svs c h
  unfold K69 at h
  cases hf : f.beq 69 with
  | false => rw [hf] at h; exact gk82 f svs c h
  | true =>
    obtain rfl := Nat.eq_of_beq_eq_true hf
    rw [hf, cond_true] at h
    obtain rfl := Option.some.inj h
    exact ⟨gc69, by kernel_rfl⟩
def h44 (t : Nat) : Option Hn :=
  bif t.beq 8 then some (.ty (.pair (.int .i64) (.pair (.int .i64) (.pair (.int .i64) (.pair .bool (.pair (.int .i64) (.pair .bool (.pair (.int .i64) (.pair .bool (.pair (.int .u64) (.pair .bool (.arr 8 (.int .i64))))))))))))) else bif t.beq 10 then some (.ty (.pair (.int .i64) (.pair (.int .i64) (.pair (.int .i64) (.pair .bool (.pair (.int .i64) (.pair .bool (.pair (.int .i64) (.pair .bool (.pair (.int .u64) (.pair .bool (.arr 8 (.int .i64))))))))))))) else bif t.beq 12 then some (.ty (.pair (.int .i64) (.pair (.int .i64) (.pair (.int .i64) (.pair .bool (.pair (.int .i64) (.pair .bool (.pair (.int .i64) (.pair .bool (.pair (.int .u64) (.pair .bool (.arr 8 (.int .i64))))))))))))) else none
def a44 (i : Nat) : Option Shape :=
  bif i.beq 2 then some ⟨[(41, (.ty .bool))], [], [], []⟩ else bif i.beq 8 then some ⟨[(46, (.ty (.int .i64)))], [], [], []⟩ else bif i.beq 15 then some ⟨[(55, (.ty .bool))], [], [], []⟩ else bif i.beq 21 then some ⟨[(61, (.ty (.int .i64)))], [], [], []⟩ else bif i.beq 28 then some ⟨[(85, (.ty .bool))], [], [], []⟩ else bif i.beq 34 then some ⟨[(91, (.ty (.int .i64)))], [], [], []⟩ else bif i.beq 41 then some ⟨[(104, (.ty .bool))], [], [], []⟩ else bif i.beq 47 then some ⟨[(112, (.ty (.int .i64)))], [], [], []⟩ else bif i.beq 55 then some ⟨[(128, (.ty .bool))], [], [], []⟩ else none
def s44 : Sg := ⟨[(.sla 0 .any), (.ty (.int .i64)), (.ty .bool)], [⟨false, (.many (.pair (.int .i64) (.pair (.int .i64) (.pair (.int .i64) (.pair .bool (.pair (.int .i64) (.pair .bool (.pair (.int .i64) (.pair .bool (.pair (.int .u64) (.pair .bool (.arr 8 (.int .i64)))))))))))))⟩], ⟨[(0, (.ty (.int .i64)))], [], [], []⟩⟩
def f44 (N : Nat) (x : s44.inp) : Option s44.res := fnS N K69 t44 ⟨h44, a44⟩ s44 x
def c44 : Ctr := ⟨s44, f44⟩
theorem gc44 : GoodC TBLb 44 c44 := good1 (T := TBLb) (f := 44) (K := K69) (c := c44) (F := t44) (nt := ⟨h44, a44⟩) noSpLb gk69 (by kernel_rfl) rfl (by kernel_rfl) (by kernel_rfl) (by intro N x; kernel_rfl)
def K44 : CTab := fun f svs => bif f.beq 44 then some c44 else K69 f svs
theorem gk44 : GoodK TBLb K44 := by
  intro f svs c h
  unfold K44 at h
  cases hf : f.beq 44 with
  | false => rw [hf] at h; exact gk69 f svs c h
  | true =>
    obtain rfl := Nat.eq_of_beq_eq_true hf
    rw [hf, cond_true] at h
    obtain rfl := Option.some.inj h
    exact ⟨gc44, by kernel_rfl⟩
def h70 (t : Nat) : Option Hn :=
  none
def a70 (i : Nat) : Option Shape :=
  bif i.beq 2 then some ⟨[(25, (.ty .bool))], [], [], []⟩ else bif i.beq 8 then some ⟨[(5, (.ty (.int .i64)))], [], [], []⟩ else bif i.beq 14 then some ⟨[(56, (.ty .bool))], [], [], []⟩ else none
def s70 : Sg := ⟨[(.sla 0 .any), (.ty (.int .i64))], [⟨false, (.many (.pair (.int .i64) (.pair (.int .i64) (.pair (.int .i64) (.pair .bool (.pair (.int .i64) (.pair .bool (.pair (.int .i64) (.pair .bool (.pair (.int .u64) (.pair .bool (.arr 8 (.int .i64)))))))))))))⟩], ⟨[(0, (.ty (.int .i64)))], [], [], []⟩⟩
def f70 (N : Nat) (x : s70.inp) : Option s70.res := fnS N K44 t70 ⟨h70, a70⟩ s70 x
def c70 : Ctr := ⟨s70, f70⟩
theorem gc70 : GoodC TBLb 70 c70 := good1 (T := TBLb) (f := 70) (K := K44) (c := c70) (F := t70) (nt := ⟨h70, a70⟩) noSpLb gk44 (by kernel_rfl) rfl (by kernel_rfl) (by kernel_rfl) (by intro N x; kernel_rfl)
def K70 : CTab := fun f svs => bif f.beq 70 then some c70 else K44 f svs
theorem gk70 : GoodK TBLb K70 := by
  intro f svs c h
  unfold K70 at h
  cases hf : f.beq 70 with
  | false => rw [hf] at h; exact gk44 f svs c h
  | true =>
    obtain rfl := Nat.eq_of_beq_eq_true hf
    rw [hf, cond_true] at h
    obtain rfl := Option.some.inj h
    exact ⟨gc70, by kernel_rfl⟩
def h83 (t : Nat) : Option Hn :=
  none
def a83 (i : Nat) : Option Shape :=
  bif i.beq 1 then some ⟨[(2, (.ty .bool))], [], [], []⟩ else none
def s83 : Sg := ⟨[(.ty (.pair (.int .i64) (.pair (.int .i64) (.pair (.int .i64) (.pair .bool (.pair (.int .i64) (.pair .bool (.pair (.int .i64) (.pair .bool (.pair (.int .u64) (.pair .bool (.arr 8 (.int .i64)))))))))))))], [], ⟨[(0, (.ty .bool))], [], [], []⟩⟩
def f83 (N : Nat) (x : s83.inp) : Option s83.res := fnS N K70 t83 ⟨h83, a83⟩ s83 x
def c83 : Ctr := ⟨s83, f83⟩
theorem gc83 : GoodC TBLb 83 c83 := good1 (T := TBLb) (f := 83) (K := K70) (c := c83) (F := t83) (nt := ⟨h83, a83⟩) noSpLb gk70 (by kernel_rfl) rfl (by kernel_rfl) (by kernel_rfl) (by intro N x; kernel_rfl)
def K83 : CTab := fun f svs => bif f.beq 83 then some c83 else K70 f svs
theorem gk83 : GoodK TBLb K83 := by
  intro f svs c h
  unfold K83 at h
  cases hf : f.beq 83 with
  | false => rw [hf] at h; exact gk70 f svs c h
  | true =>
    obtain rfl := Nat.eq_of_beq_eq_true hf
    rw [hf, cond_true] at h
    obtain rfl := Option.some.inj h
    exact ⟨gc83, by kernel_rfl⟩
def h71 (t : Nat) : Option Hn :=
  bif t.beq 5 then some (.ty (.pair (.int .i64) (.pair (.int .i64) (.pair (.int .i64) (.pair .bool (.pair (.int .i64) (.pair .bool (.pair (.int .i64) (.pair .bool (.pair (.int .u64) (.pair .bool (.arr 8 (.int .i64))))))))))))) else bif t.beq 7 then some (.ty (.pair (.int .i64) (.pair (.int .i64) (.pair (.int .i64) (.pair .bool (.pair (.int .i64) (.pair .bool (.pair (.int .i64) (.pair .bool (.pair (.int .u64) (.pair .bool (.arr 8 (.int .i64))))))))))))) else bif t.beq 11 then some (.ty (.pair (.int .i64) (.pair (.int .i64) (.pair (.int .i64) (.pair .bool (.pair (.int .i64) (.pair .bool (.pair (.int .i64) (.pair .bool (.pair (.int .u64) (.pair .bool (.arr 8 (.int .i64))))))))))))) else none
def a71 (i : Nat) : Option Shape :=
  bif i.beq 2 then some ⟨[(23, (.ty .bool))], [], [], []⟩ else bif i.beq 10 then some ⟨[(6, (.ty (.int .i64)))], [], [], []⟩ else bif i.beq 15 then some ⟨[], [], [], []⟩ else bif i.beq 18 then some ⟨[(48, (.ty .bool))], [], [], []⟩ else bif i.beq 23 then some ⟨[(52, (.ty (.int .i64)))], [], [], []⟩ else bif i.beq 28 then some ⟨[], [], [], []⟩ else bif i.beq 32 then some ⟨[(81, (.ty .bool))], [], [], []⟩ else bif i.beq 37 then some ⟨[(88, (.ty (.int .i64)))], [], [], []⟩ else bif i.beq 44 then some ⟨[(101, (.ty .bool))], [], [], []⟩ else none
def s71 : Sg := ⟨[(.sla 0 .any), (.ty (.int .i64))], [⟨false, (.many (.pair (.int .i64) (.pair (.int .i64) (.pair (.int .i64) (.pair .bool (.pair (.int .i64) (.pair .bool (.pair (.int .i64) (.pair .bool (.pair (.int .u64) (.pair .bool (.arr 8 (.int .i64)))))))))))))⟩], ⟨[(0, (.ty (.int .i64)))], [], [], []⟩⟩
def f71 (N : Nat) (x : s71.inp) : Option s71.res := fnS N K83 t71 ⟨h71, a71⟩ s71 x
def c71 : Ctr := ⟨s71, f71⟩
theorem gc71 : GoodC TBLb 71 c71 := good1 (T := TBLb) (f := 71) (K := K83) (c := c71) (F := t71) (nt := ⟨h71, a71⟩) noSpLb gk83 (by kernel_rfl) rfl (by kernel_rfl) (by kernel_rfl) (by intro N x; kernel_rfl)
def K71 : CTab := fun f svs => bif f.beq 71 then some c71 else K83 f svs
theorem gk71 : GoodK TBLb K71 := by
  intro f svs c h
  unfold K71 at h
  cases hf : f.beq 71 with
  | false => rw [hf] at h; exact gk83 f svs c h
  | true =>
    obtain rfl := Nat.eq_of_beq_eq_true hf
    rw [hf, cond_true] at h
    obtain rfl := Option.some.inj h
    exact ⟨gc71, by kernel_rfl⟩
def h43 (t : Nat) : Option Hn :=
  bif t.beq 1 then some (.ty (.pair (.int .i64) (.pair (.int .i64) (.pair (.int .i64) (.pair .bool (.pair (.int .i64) (.pair .bool (.pair (.int .i64) (.pair .bool (.pair (.int .u64) (.pair .bool (.arr 8 (.int .i64))))))))))))) else bif t.beq 2 then some (.ty (.pair (.int .i64) (.pair (.int .i64) (.pair (.int .i64) (.pair .bool (.pair (.int .i64) (.pair .bool (.pair (.int .i64) (.pair .bool (.pair (.int .u64) (.pair .bool (.arr 8 (.int .i64))))))))))))) else bif t.beq 6 then some (.ty (.pair (.int .i64) (.pair (.int .i64) (.pair (.int .i64) (.pair .bool (.pair (.int .i64) (.pair .bool (.pair (.int .i64) (.pair .bool (.pair (.int .u64) (.pair .bool (.arr 8 (.int .i64))))))))))))) else bif t.beq 7 then some (.ty (.pair (.int .i64) (.pair (.int .i64) (.pair (.int .i64) (.pair .bool (.pair (.int .i64) (.pair .bool (.pair (.int .i64) (.pair .bool (.pair (.int .u64) (.pair .bool (.arr 8 (.int .i64))))))))))))) else bif t.beq 10 then some (.ty (.pair (.int .i64) (.pair (.int .i64) (.pair (.int .i64) (.pair .bool (.pair (.int .i64) (.pair .bool (.pair (.int .i64) (.pair .bool (.pair (.int .u64) (.pair .bool (.arr 8 (.int .i64))))))))))))) else bif t.beq 15 then some (.ty (.pair (.int .i64) (.pair (.int .i64) (.pair (.int .i64) (.pair .bool (.pair (.int .i64) (.pair .bool (.pair (.int .i64) (.pair .bool (.pair (.int .u64) (.pair .bool (.arr 8 (.int .i64))))))))))))) else bif t.beq 21 then some (.ty (.pair (.int .i64) (.pair (.int .i64) (.pair (.int .i64) (.pair .bool (.pair (.int .i64) (.pair .bool (.pair (.int .i64) (.pair .bool (.pair (.int .u64) (.pair .bool (.arr 8 (.int .i64))))))))))))) else bif t.beq 54 then some (.ty (.pair (.int .i64) (.pair (.int .i64) (.pair (.int .i64) (.pair .bool (.pair (.int .i64) (.pair .bool (.pair (.int .i64) (.pair .bool (.pair (.int .u64) (.pair .bool (.arr 8 (.int .i64))))))))))))) else bif t.beq 55 then some (.ty (.pair (.int .i64) (.pair (.int .i64) (.pair (.int .i64) (.pair .bool (.pair (.int .i64) (.pair .bool (.pair (.int .i64) (.pair .bool (.pair (.int .u64) (.pair .bool (.arr 8 (.int .i64))))))))))))) else none
def a43 (i : Nat) : Option Shape :=
  bif i.beq 11 then some ⟨[(0, (.ty .bool))], [], [], []⟩ else none
def s43 : Sg := ⟨[], [], ⟨[(0, (.ty .bool))], [], [], []⟩⟩
def f43 (N : Nat) (x : s43.inp) : Option s43.res := fnS N K71 t43 ⟨h43, a43⟩ s43 x
def c43 : Ctr := ⟨s43, f43⟩
theorem gc43 : GoodC TBLb 43 c43 := good2 (T := TBLb) (f := 43) (K := K71) (c := c43) (F := t43) (nt := ⟨h43, a43⟩) noSpLb gk71 (by kernel_rfl) rfl (by kernel_rfl) (by kernel_rfl) rfl (by kernel_rfl) (by intro N x; kernel_rfl)
def K43 : CTab := fun f svs => bif f.beq 43 then some c43 else K71 f svs
theorem gk43 : GoodK TBLb K43 := by
  intro f svs c h
  unfold K43 at h
  cases hf : f.beq 43 with
  | false => rw [hf] at h; exact gk71 f svs c h
  | true =>
    obtain rfl := Nat.eq_of_beq_eq_true hf
    rw [hf, cond_true] at h
    obtain rfl := Option.some.inj h
    exact ⟨gc43, by kernel_rfl⟩
def h10 (t : Nat) : Option Hn :=
  none
def a10 (i : Nat) : Option Shape :=
  bif i.beq 15 then some ⟨[(48, (.ty .bool))], [], [], []⟩ else bif i.beq 23 then some ⟨[(9, (.ty (.int .i64)))], [(1, (.many (.pair (.int .i64) (.pair (.int .i64) (.pair (.int .i64) (.pair .bool (.pair (.int .i64) (.pair .bool (.pair (.int .i64) (.pair .bool (.pair (.int .u64) (.pair .bool (.arr 8 (.int .i64))))))))))))))], [], []⟩ else bif i.beq 29 then some ⟨[(6, (.ty .bool))], [], [], []⟩ else none
def s10 : Sg := ⟨[(.sla 0 .any), (.ty (.int .u8)), (.ty .bool)], [⟨false, (.many (.pair (.int .i64) (.pair (.int .i64) (.pair (.int .i64) (.pair .bool (.pair (.int .i64) (.pair .bool (.pair (.int .i64) (.pair .bool (.pair (.int .u64) (.pair .bool (.arr 8 (.int .i64)))))))))))))⟩], ⟨[(0, (.ty .bool))], [], [], []⟩⟩
def f10 (N : Nat) (x : s10.inp) : Option s10.res := fnS N K43 t10 ⟨h10, a10⟩ s10 x
def c10 : Ctr := ⟨s10, f10⟩
theorem gc10 : GoodC TBLb 10 c10 := good1 (T := TBLb) (f := 10) (K := K43) (c := c10) (F := t10) (nt := ⟨h10, a10⟩) noSpLb gk43 (by kernel_rfl) rfl (by kernel_rfl) (by kernel_rfl) (by intro N x; kernel_rfl)
def K10 : CTab := fun f svs => bif f.beq 10 then some c10 else K43 f svs
theorem gk10 : GoodK TBLb K10 := by
  intro f svs c h
  unfold K10 at h
  cases hf : f.beq 10 with
  | false => rw [hf] at h; exact gk43 f svs c h
  | true =>
    obtain rfl := Nat.eq_of_beq_eq_true hf
    rw [hf, cond_true] at h
    obtain rfl := Option.some.inj h
    exact ⟨gc10, by kernel_rfl⟩
end Go.Proofs.Ytipdancojcdioaa
