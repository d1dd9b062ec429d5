/- Contracts of functions, by their bodies and shapes. No condition. -/
import Derived.Test.YtipdancojcdioaaShR
import Derived.Test.YtipdancojcdioaaTabOn
import Derived.KernelRfl
namespace Go.Proofs.Ytipdancojcdioaa
open Go Go.Ev Go.Sh
set_option maxRecDepth 100000
set_option linter.unusedVariables false
theorem noSpOn : NoSp TBOn := fun _ _ => rfl
def K0On : CTab := fun _ _ => none
theorem gk0On : GoodK TBOn K0On := fun _ _ _ h => by cases h
def h57 (t : Nat) : Option Hn :=
  none
def a57 (i : Nat) : Option Shape :=
  bif i.beq 3 then some ⟨[(3, (.ty .bool))], [], [], []⟩ else none
def s57 : Sg := ⟨[(.ty (.int .i64))], [], ⟨[(0, (.ty (.int .i64)))], [], [], []⟩⟩
def f57 (N : Nat) (x : s57.inp) : Option s57.res := fnS N K0On t57 ⟨h57, a57⟩ s57 x
def c57 : Ctr := ⟨s57, f57⟩
theorem gc57 : GoodC TBOn 57 c57 := good2 (T := TBOn) (f := 57) (K := K0On) (c := c57) (F := t57) (nt := ⟨h57, a57⟩) noSpOn gk0On (by kernel_rfl) rfl (by kernel_rfl) (by kernel_rfl) rfl (by kernel_rfl) (by intro N x; kernel_rfl)
def K57 : CTab := fun f svs => bif f.beq 57 then some c57 else K0On f svs
theorem gk57 : GoodK TBOn K57 := by
  intro f svs c h
  unfold K57 at h
  cases hf : f.beq 57 with
  | false => rw [hf] at h; exact gk0On f svs c h
  | true =>
    obtain rfl := Nat.eq_of_beq_eq_true hf
    rw [hf, cond_true] at h
    obtain rfl := Option.some.inj h
    exact ⟨gc57, by kernel_rfl⟩
def h58 (t : Nat) : Option Hn :=
  none
def a58 (i : Nat) : Option Shape :=
  bif i.beq 4 then some ⟨[(4, (.ty .bool))], [], [], []⟩ else bif i.beq 11 then some ⟨[(8, (.ty .bool))], [], [], []⟩ else bif i.beq 18 then some ⟨[(12, (.ty .bool))], [], [], []⟩ else bif i.beq 29 then some ⟨[(18, (.ty .bool))], [], [], []⟩ else none
def s58 : Sg := ⟨[(.ty (.int .i64))], [], ⟨[(0, (.ty (.int .i64)))], [], [], []⟩⟩
def f58 (N : Nat) (x : s58.inp) : Option s58.res := fnS N K57 t58 ⟨h58, a58⟩ s58 x
def c58 : Ctr := ⟨s58, f58⟩
theorem gc58 : GoodC TBOn 58 c58 := good2 (T := TBOn) (f := 58) (K := K57) (c := c58) (F := t58) (nt := ⟨h58, a58⟩) noSpOn gk57 (by kernel_rfl) rfl (by kernel_rfl) (by kernel_rfl) rfl (by kernel_rfl) (by intro N x; kernel_rfl)
def K58 : CTab := fun f svs => bif f.beq 58 then some c58 else K57 f svs
theorem gk58 : GoodK TBOn K58 := by
  intro f svs c h
  unfold K58 at h
  cases hf : f.beq 58 with
  | false => rw [hf] at h; exact gk57 f svs c h
  | true =>
    obtain rfl := Nat.eq_of_beq_eq_true hf
    rw [hf, cond_true] at h
    obtain rfl := Option.some.inj h
    exact ⟨gc58, by kernel_rfl⟩
def h59 (t : Nat) : Option Hn :=
  bif t.beq 0 then some (.ty (.arr 76 .str)) else bif t.beq 1 then some (.ty (.arr 76 .str)) else none
def a59 (i : Nat) : Option Shape :=
  none
def s59 : Sg := ⟨[], [], ⟨[(0, (.ty (.arr 76 .str)))], [], [], []⟩⟩
def f59 (N : Nat) (x : s59.inp) : Option s59.res := fnS N K58 t59 ⟨h59, a59⟩ s59 x
def c59 : Ctr := ⟨s59, f59⟩
theorem gc59 : GoodC TBOn 59 c59 := good2 (T := TBOn) (f := 59) (K := K58) (c := c59) (F := t59) (nt := ⟨h59, a59⟩) noSpOn gk58 (by kernel_rfl) rfl (by kernel_rfl) (by kernel_rfl) rfl (by kernel_rfl) (by intro N x; kernel_rfl)
def K59 : CTab := fun f svs => bif f.beq 59 then some c59 else K58 f svs
theorem gk59 : GoodK TBOn K59 := by
  intro f svs c h
  unfold K59 at h
  cases hf : f.beq 59 with
  | false => rw [hf] at h; exact gk58 f svs c h
  | true =>
    obtain rfl := Nat.eq_of_beq_eq_true hf
    rw [hf, cond_true] at h
    obtain rfl := Option.some.inj h
    exact ⟨gc59, by kernel_rfl⟩
def h27 (t : Nat) : Option Hn :=
  none
def a27 (i : Nat) : Option Shape :=
  none
def s27 : Sg := ⟨[(.ty (.int .i64))], [], ⟨[(0, (.ty .str))], [], [], []⟩⟩
def f27 (N : Nat) (x : s27.inp) : Option s27.res := fnS N K59 t27 ⟨h27, a27⟩ s27 x
def c27 : Ctr := ⟨s27, f27⟩
theorem gc27 : GoodC TBOn 27 c27 := good2 (T := TBOn) (f := 27) (K := K59) (c := c27) (F := t27) (nt := ⟨h27, a27⟩) noSpOn gk59 (by kernel_rfl) rfl (by kernel_rfl) (by kernel_rfl) rfl (by kernel_rfl) (by intro N x; kernel_rfl)
def K27 : CTab := fun f svs => bif f.beq 27 then some c27 else K59 f svs
theorem gk27 : GoodK TBOn K27 := by
  intro f svs c h
  unfold K27 at h
  cases hf : f.beq 27 with
  | false => rw [hf] at h; exact gk59 f svs c h
  | true =>
    obtain rfl := Nat.eq_of_beq_eq_true hf
    rw [hf, cond_true] at h
    obtain rfl := Option.some.inj h
    exact ⟨gc27, by kernel_rfl⟩
def h26 (t : Nat) : Option Hn :=
  none
def a26 (i : Nat) : Option Shape :=
  bif i.beq 4 then some ⟨[(6, (.ty (.int .i64)))], [], [], []⟩ else none
def s26 : Sg := ⟨[(.ty .str)], [], ⟨[(0, (.ty (.int .i64)))], [], [], []⟩⟩
def f26 (N : Nat) (x : s26.inp) : Option s26.res := fnS N K27 t26 ⟨h26, a26⟩ s26 x
def c26 : Ctr := ⟨s26, f26⟩
theorem gc26 : GoodC TBOn 26 c26 := good2 (T := TBOn) (f := 26) (K := K27) (c := c26) (F := t26) (nt := ⟨h26, a26⟩) noSpOn gk27 (by kernel_rfl) rfl (by kernel_rfl) (by kernel_rfl) rfl (by kernel_rfl) (by intro N x; kernel_rfl)
def K26 : CTab := fun f svs => bif f.beq 26 then some c26 else K27 f svs
theorem gk26 : GoodK TBOn K26 := by
  intro f svs c h
  unfold K26 at h
  cases hf : f.beq 26 with
  | false => rw [hf] at h; exact gk27 f svs c h
  | true =>
    obtain rfl := Nat.eq_of_beq_eq_true hf
    rw [hf, cond_true] at h
    obtain rfl := Option.some.inj h
    exact ⟨gc26, by kernel_rfl⟩
def h61 (t : Nat) : Option Hn :=
  none
def a61 (i : Nat) : Option Shape :=
  bif i.beq 2 then some ⟨[(8, (.ty .bool))], [], [], []⟩ else none
def s61 : Sg := ⟨[(.ty (.int .i64))], [], ⟨[(0, (.ty (.int .i64)))], [], [], []⟩⟩
def f61 (N : Nat) (x : s61.inp) : Option s61.res := fnS N K26 t61 ⟨h61, a61⟩ s61 x
def c61 : Ctr := ⟨s61, f61⟩
theorem gc61 : GoodC TBOn 61 c61 := good2 (T := TBOn) (f := 61) (K := K26) (c := c61) (F := t61) (nt := ⟨h61, a61⟩) noSpOn gk26 (by kernel_rfl) rfl (by kernel_rfl) (by kernel_rfl) rfl (by kernel_rfl) (by intro N x; kernel_rfl)
def K61 : CTab := fun f svs => bif f.beq 61 then some c61 else K26 f svs
theorem gk61 : GoodK TBOn K61 := by
  intro f svs c h
  unfold K61 at h
  cases hf : f.beq 61 with
  | false => rw [hf] at h; exact gk26 f svs c h
  | true =>
    obtain rfl := Nat.eq_of_beq_eq_true hf
    rw [hf, cond_true] at h
    obtain rfl := Option.some.inj h
    exact ⟨gc61, by kernel_rfl⟩
def h38 (t : Nat) : Option Hn :=
  bif t.beq 22 then some (.ty (.int .i64)) else bif t.beq 30 then some (.ty (.int .i64)) else bif t.beq 39 then some (.ty (.int .i64)) else bif t.beq 50 then some (.ty (.int .i64)) else none
def a38 (i : Nat) : Option Shape :=
  bif i.beq 4 then some ⟨[(3, (.sla 1 .yes))], [], [], [⟨true, (.many (.int .i64))⟩]⟩ else bif i.beq 5 then some ⟨[(10, (.ty .bool))], [], [], []⟩ else bif i.beq 15 then some ⟨[(23, (.ty .bool))], [], [], []⟩ else bif i.beq 29 then some ⟨[(4, (.sla 2 .yes)), (42, (.ty (.int .i64)))], [], [], [⟨true, (.many (.int .i64))⟩]⟩ else bif i.beq 34 then some ⟨[(4, (.sla 3 .yes))], [], [2], [⟨true, (.many (.int .i64))⟩]⟩ else none
def s38 : Sg := ⟨[(.ty (.pair (.int .i64) (.pair (.int .i64) (.pair (.int .i64) (.pair (.int .i64) (.pair (.int .i64) (.pair .bool (.pair .bool (.pair (.int .i64) (.int .i64))))))))))], [], ⟨[(0, (.sla 0 .yes))], [], [], [⟨true, (.many (.int .i64))⟩]⟩⟩
def f38 (N : Nat) (x : s38.inp) : Option s38.res := fnS N K61 t38 ⟨h38, a38⟩ s38 x
def c38 : Ctr := ⟨s38, f38⟩
theorem gc38 : GoodC TBOn 38 c38 := good3 (T := TBOn) (f := 38) (K := K61) (c := c38) (F := t38) (nt := ⟨h38, a38⟩) noSpOn gk61 (by kernel_rfl) rfl (by kernel_rfl) (by kernel_rfl) (by intro N x; kernel_rfl)
def K38 : CTab := fun f svs => bif f.beq 38 then some c38 else K61 f svs
theorem gk38 : GoodK TBOn K38 := by
  intro f svs c h
  unfold K38 at h
  cases hf : f.beq 38 with
  | false => rw [hf] at h; exact gk61 f svs c h
  | true =>
    obtain rfl := Nat.eq_of_beq_eq_true hf
    rw [hf, cond_true] at h
    obtain rfl := Option.some.inj h
    exact ⟨gc38, by kernel_rfl⟩
def h24 (t : Nat) : Option Hn :=
  bif t.beq 16 then some (.ty (.pair (.int .i64) (.pair (.int .i64) (.pair (.int .i64) (.pair (.int .i64) (.pair (.int .i64) (.pair .bool (.pair .bool (.pair (.int .i64) (.int .i64)))))))))) else none
def a24 (i : Nat) : Option Shape :=
  bif i.beq 1 then some ⟨[(0, (.ty .bool))], [], [], []⟩ else none
def s24 : Sg := ⟨[], [], ⟨[(0, (.ty .bool))], [], [], []⟩⟩
def f24 (N : Nat) (x : s24.inp) : Option s24.res := fnS N K38 t24 ⟨h24, a24⟩ s24 x
def c24 : Ctr := ⟨s24, f24⟩
theorem gc24 : GoodC TBOn 24 c24 := good2 (T := TBOn) (f := 24) (K := K38) (c := c24) (F := t24) (nt := ⟨h24, a24⟩) noSpOn gk38 (by kernel_rfl) rfl (by kernel_rfl) (by kernel_rfl) rfl (by kernel_rfl) (by intro N x; kernel_rfl)
def K24 : CTab := fun f svs => bif f.beq 24 then some c24 else K38 f svs
theorem gk24 : GoodK TBOn K24 := by
  intro f svs c h
  unfold K24 at h
  cases hf : f.beq 24 with
  | false => rw [hf] at h; exact gk38 f svs c h
  | true =>
    obtain rfl := Nat.eq_of_beq_eq_true hf
    rw [hf, cond_true] at h
    obtain rfl := Option.some.inj h
    exact ⟨gc24, by kernel_rfl⟩
def h25 (t : Nat) : Option Hn :=
  bif t.beq 1 then some (.ty .str) else none
def a25 (i : Nat) : Option Shape :=
  none
def s25 : Sg := ⟨[], [], ⟨[(0, (.sla 0 .yes))], [], [], [⟨true, (.many .str)⟩]⟩⟩
def f25 (N : Nat) (x : s25.inp) : Option s25.res := fnS N K24 t25 ⟨h25, a25⟩ s25 x
def c25 : Ctr := ⟨s25, f25⟩
theorem gc25 : GoodC TBOn 25 c25 := good3 (T := TBOn) (f := 25) (K := K24) (c := c25) (F := t25) (nt := ⟨h25, a25⟩) noSpOn gk24 (by kernel_rfl) rfl (by kernel_rfl) (by kernel_rfl) (by intro N x; kernel_rfl)
def K25 : CTab := fun f svs => bif f.beq 25 then some c25 else K24 f svs
theorem gk25 : GoodK TBOn K25 := by
  intro f svs c h
  unfold K25 at h
  cases hf : f.beq 25 with
  | false => rw [hf] at h; exact gk24 f svs c h
  | true =>
    obtain rfl := Nat.eq_of_beq_eq_true hf
    rw [hf, cond_true] at h
    obtain rfl := Option.some.inj h
    exact ⟨gc25, by kernel_rfl⟩
def h5 (t : Nat) : Option Hn :=
  none
def a5 (i : Nat) : Option Shape :=
  bif i.beq 10 then some ⟨[(6, (.ty (.int .i64))), (7, (.ty (.int .i64)))], [], [], []⟩ else bif i.beq 16 then some ⟨[(6, (.ty (.int .i64)))], [], [], []⟩ else bif i.beq 19 then some ⟨[(42, (.ty .bool))], [], [], []⟩ else bif i.beq 23 then some ⟨[(52, (.ty .bool))], [], [], []⟩ else bif i.beq 26 then some ⟨[(4, (.ty .bool))], [], [], []⟩ else none
def s5 : Sg := ⟨[(.ty .str), (.ty (.int .i64))], [], ⟨[(0, (.ty .bool))], [], [], []⟩⟩
def f5 (N : Nat) (x : s5.inp) : Option s5.res := fnS N K25 t5 ⟨h5, a5⟩ s5 x
def c5 : Ctr := ⟨s5, f5⟩
theorem gc5 : GoodC TBOn 5 c5 := good1 (T := TBOn) (f := 5) (K := K25) (c := c5) (F := t5) (nt := ⟨h5, a5⟩) noSpOn gk25 (by kernel_rfl) rfl (by kernel_rfl) (by kernel_rfl) (by intro N x; kernel_rfl)
def K5 : CTab := fun f svs => bif f.beq 5 then some c5 else K25 f svs
theorem gk5 : GoodK TBOn K5 := by
  intro f svs c h
  unfold K5 at h
  cases hf : f.beq 5 with
  | false => rw [hf] at h; exact gk25 f svs c h
  | true =>
    obtain rfl := Nat.eq_of_beq_eq_true hf
    rw [hf, cond_true] at h
    obtain rfl := Option.some.inj h
    exact ⟨gc5, by kernel_rfl⟩
end Go.Proofs.Ytipdancojcdioaa
