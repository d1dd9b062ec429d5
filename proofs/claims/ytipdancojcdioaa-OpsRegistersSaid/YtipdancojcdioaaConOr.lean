/- Contracts of functions, by their bodies and shapes. No condition. -/
import Derived.Test.YtipdancojcdioaaShR
import Derived.Test.YtipdancojcdioaaTabOr
import Derived.KernelRfl
namespace Go.Proofs.Ytipdancojcdioaa
open Go Go.Ev Go.Sh
set_option maxRecDepth 100000
set_option linter.unusedVariables false
theorem noSpOr : NoSp TBOr := fun _ _ => rfl
def K0Or : CTab := fun _ _ => none
theorem gk0Or : GoodK TBOr K0Or := fun _ _ _ h => by cases h
def h57 (t : Nat) : Option Hn :=
  none
def a57 (i : Nat) : Option Shape :=
  bif i.beq 3 then some ⟨[(3, (.ty .bool))], [], [], []⟩ else none
def s57 : Sg := ⟨[(.ty (.int .i64))], [], ⟨[(0, (.ty (.int .i64)))], [], [], []⟩⟩
def f57 (N : Nat) (x : s57.inp) : Option s57.res := fnS N K0Or t57 ⟨h57, a57⟩ s57 x
def c57 : Ctr := ⟨s57, f57⟩
theorem gc57 : GoodC TBOr 57 c57 := good2 (T := TBOr) (f := 57) (K := K0Or) (c := c57) (F := t57) (nt := ⟨h57, a57⟩) noSpOr gk0Or (by kernel_rfl) rfl (by kernel_rfl) (by kernel_rfl) rfl (by kernel_rfl) (by intro N x; kernel_rfl)
def K57 : CTab := fun f svs => bif f.beq 57 then some c57 else K0Or f svs
theorem gk57 : GoodK TBOr K57 := by
  intro f svs c h
  unfold K57 at h
  cases hf : f.beq 57 with
  | false => rw [hf] at h; exact gk0Or f svs c h
  | true =>
    obtain rfl := Nat.eq_of_beq_eq_true hf
    rw [hf, cond_true] at h
    obtain rfl := Option.some.inj h
    exact ⟨gc57, by kernel_rfl⟩
def h58 (t : Nat) : Option Hn :=
  none
def a58 (i : Nat) : Option Shape :=
  bif i.beq 4 then some ⟨[(4, (.ty .bool))], [], [], []⟩ else bif i.beq 11 then some ⟨[(8, (.ty .bool))], [], [], []⟩ else bif i.beq 18 then some ⟨[(12, (.ty .bool))], [], [], []⟩ else bif i.beq 29 then some ⟨[(18, (.ty .bool))], [], [], []⟩ else none
def s58 : Sg := ⟨[(.ty (.int .i64))], [], ⟨[(0, (.ty (.int .i64)))], [], [], []⟩⟩
def f58 (N : Nat) (x : s58.inp) : Option s58.res := fnS N K57 t58 ⟨h58, a58⟩ s58 x
def c58 : Ctr := ⟨s58, f58⟩
theorem gc58 : GoodC TBOr 58 c58 := good2 (T := TBOr) (f := 58) (K := K57) (c := c58) (F := t58) (nt := ⟨h58, a58⟩) noSpOr gk57 (by kernel_rfl) rfl (by kernel_rfl) (by kernel_rfl) rfl (by kernel_rfl) (by intro N x; kernel_rfl)
def K58 : CTab := fun f svs => bif f.beq 58 then some c58 else K57 f svs
theorem gk58 : GoodK TBOr K58 := by
  intro f svs c h
  unfold K58 at h
  cases hf : f.beq 58 with
  | false => rw [hf] at h; exact gk57 f svs c h
  | true =>
    obtain rfl := Nat.eq_of_beq_eq_true hf
    rw [hf, cond_true] at h
    obtain rfl := Option.some.inj h
    exact ⟨gc58, by kernel_rfl⟩
def h59 (t : Nat) : Option Hn :=
  bif t.beq 0 then some (.ty (.arr 76 .str)) else bif t.beq 1 then some (.ty (.arr 76 .str)) else none
def a59 (i : Nat) : Option Shape :=
  none
def s59 : Sg := ⟨[], [], ⟨[(0, (.ty (.arr 76 .str)))], [], [], []⟩⟩
def f59 (N : Nat) (x : s59.inp) : Option s59.res := fnS N K58 t59 ⟨h59, a59⟩ s59 x
def c59 : Ctr := ⟨s59, f59⟩
theorem gc59 : GoodC TBOr 59 c59 := good2 (T := TBOr) (f := 59) (K := K58) (c := c59) (F := t59) (nt := ⟨h59, a59⟩) noSpOr gk58 (by kernel_rfl) rfl (by kernel_rfl) (by kernel_rfl) rfl (by kernel_rfl) (by intro N x; kernel_rfl)
def K59 : CTab := fun f svs => bif f.beq 59 then some c59 else K58 f svs
theorem gk59 : GoodK TBOr K59 := by
  intro f svs c h
  unfold K59 at h
  cases hf : f.beq 59 with
  | false => rw [hf] at h; exact gk58 f svs c h
  | true =>
    obtain rfl := Nat.eq_of_beq_eq_true hf
    rw [hf, cond_true] at h
    obtain rfl := Option.some.inj h
    exact ⟨gc59, by kernel_rfl⟩
def h27 (t : Nat) : Option Hn :=
  none
def a27 (i : Nat) : Option Shape :=
  none
def s27 : Sg := ⟨[(.ty (.int .i64))], [], ⟨[(0, (.ty .str))], [], [], []⟩⟩
def f27 (N : Nat) (x : s27.inp) : Option s27.res := fnS N K59 t27 ⟨h27, a27⟩ s27 x
def c27 : Ctr := ⟨s27, f27⟩
theorem gc27 : GoodC TBOr 27 c27 := good2 (T := TBOr) (f := 27) (K := K59) (c := c27) (F := t27) (nt := ⟨h27, a27⟩) noSpOr gk59 (by kernel_rfl) rfl (by kernel_rfl) (by kernel_rfl) rfl (by kernel_rfl) (by intro N x; kernel_rfl)
def K27 : CTab := fun f svs => bif f.beq 27 then some c27 else K59 f svs
theorem gk27 : GoodK TBOr K27 := by
  intro f svs c h
  unfold K27 at h
  cases hf : f.beq 27 with
  | false => rw [hf] at h; exact gk59 f svs c h
  | true =>
    obtain rfl := Nat.eq_of_beq_eq_true hf
    rw [hf, cond_true] at h
    obtain rfl := Option.some.inj h
    exact ⟨gc27, by kernel_rfl⟩
def h26 (t : Nat) : Option Hn :=
  none
def a26 (i : Nat) : Option Shape :=
  bif i.beq 4 then some ⟨[(6, (.ty (.int .i64)))], [], [], []⟩ else none
def s26 : Sg := ⟨[(.ty .str)], [], ⟨[(0, (.ty (.int .i64)))], [], [], []⟩⟩
def f26 (N : Nat) (x : s26.inp) : Option s26.res := fnS N K27 t26 ⟨h26, a26⟩ s26 x
def c26 : Ctr := ⟨s26, f26⟩
theorem gc26 : GoodC TBOr 26 c26 := good2 (T := TBOr) (f := 26) (K := K27) (c := c26) (F := t26) (nt := ⟨h26, a26⟩) noSpOr gk27 (by kernel_rfl) rfl (by kernel_rfl) (by kernel_rfl) rfl (by kernel_rfl) (by intro N x; kernel_rfl)
def K26 : CTab := fun f svs => bif f.beq 26 then some c26 else K27 f svs
theorem gk26 : GoodK TBOr K26 := by
  intro f svs c h
  unfold K26 at h
  cases hf : f.beq 26 with
  | false => rw [hf] at h; exact gk27 f svs c h
  | true =>
    obtain rfl := Nat.eq_of_beq_eq_true hf
    rw [hf, cond_true] at h
    obtain rfl := Option.some.inj h
    exact ⟨gc26, by kernel_rfl⟩
def h61 (t : Nat) : Option Hn :=
  none
def a61 (i : Nat) : Option Shape :=
  bif i.beq 2 then some ⟨[(8, (.ty .bool))], [], [], []⟩ else none
def s61 : Sg := ⟨[(.ty (.int .i64))], [], ⟨[(0, (.ty (.int .i64)))], [], [], []⟩⟩
def f61 (N : Nat) (x : s61.inp) : Option s61.res := fnS N K26 t61 ⟨h61, a61⟩ s61 x
def c61 : Ctr := ⟨s61, f61⟩
theorem gc61 : GoodC TBOr 61 c61 := good2 (T := TBOr) (f := 61) (K := K26) (c := c61) (F := t61) (nt := ⟨h61, a61⟩) noSpOr gk26 (by kernel_rfl) rfl (by kernel_rfl) (by kernel_rfl) rfl (by kernel_rfl) (by intro N x; kernel_rfl)
def K61 : CTab := fun f svs => bif f.beq 61 then some c61 else K26 f svs
theorem gk61 : GoodK TBOr K61 := by
  intro f svs c h
  unfold K61 at h
  cases hf : f.beq 61 with
  | false => rw [hf] at h; exact gk26 f svs c h
  | true =>
    obtain rfl := Nat.eq_of_beq_eq_true hf
    rw [hf, cond_true] at h
    obtain rfl := Option.some.inj h
    exact ⟨gc61, by kernel_rfl⟩
def h38 (t : Nat) : Option Hn :=
  bif t.beq 22 then some (.ty (.int .i64)) else bif t.beq 30 then some (.ty (.int .i64)) else bif t.beq 39 then some (.ty (.int .i64)) else bif t.beq 50 then some (.ty (.int .i64)) else none
def a38 (i : Nat) : Option Shape :=
  bif i.beq 4 then some ⟨[(3, (.sla 1 .yes))], [], [], [⟨true, (.many (.int .i64))⟩]⟩ else bif i.beq 5 then some ⟨[(10, (.ty .bool))], [], [], []⟩ else bif i.beq 15 then some ⟨[(23, (.ty .bool))], [], [], []⟩ else bif i.beq 29 then some ⟨[(4, (.sla 2 .yes)), (42, (.ty (.int .i64)))], [], [], [⟨true, (.many (.int .i64))⟩]⟩ else bif i.beq 34 then some ⟨[(4, (.sla 3 .yes))], [], [2], [⟨true, (.many (.int .i64))⟩]⟩ else none
def s38 : Sg := ⟨[(.ty (.pair (.int .i64) (.pair (.int .i64) (.pair (.int .i64) (.pair (.int .i64) (.pair (.int .i64) (.pair .bool (.pair .bool (.pair (.int .i64) (.int .i64))))))))))], [], ⟨[(0, (.sla 0 .yes))], [], [], [⟨true, (.many (.int .i64))⟩]⟩⟩
def f38 (N : Nat) (x : s38.inp) : Option s38.res := fnS N K61 t38 ⟨h38, a38⟩ s38 x
def c38 : Ctr := ⟨s38, f38⟩
theorem gc38 : GoodC TBOr 38 c38 := good3 (T := TBOr) (f := 38) (K := K61) (c := c38) (F := t38) (nt := ⟨h38, a38⟩) noSpOr gk61 (by kernel_rfl) rfl (by kernel_rfl) (by kernel_rfl) (by intro N x; kernel_rfl)
def K38 : CTab := fun f svs => bif f.beq 38 then some c38 else K61 f svs
theorem gk38 : GoodK TBOr K38 := by
  intro f svs c h
  unfold K38 at h
  cases hf : f.beq 38 with
  | false => rw [hf] at h; exact gk61 f svs c h
  | true =>
    obtain rfl := Nat.eq_of_beq_eq_true hf
    rw [hf, cond_true] at h
    obtain rfl := Option.some.inj h
    exact ⟨gc38, by kernel_rfl⟩
def h24 (t : Nat) : Option Hn :=
  bif t.beq 16 then some (.ty (.pair (.int .i64) (.pair (.int .i64) (.pair (.int .i64) (.pair (.int .i64) (.pair (.int .i64) (.pair .bool (.pair .bool (.pair (.int .i64) (.int .i64)))))))))) else none
def a24 (i : Nat) : Option Shape :=
  bif i.beq 1 then some ⟨[(0, (.ty .bool))], [], [], []⟩ else none
def s24 : Sg := ⟨[], [], ⟨[(0, (.ty .bool))], [], [], []⟩⟩
def f24 (N : Nat) (x : s24.inp) : Option s24.res := fnS N K38 t24 ⟨h24, a24⟩ s24 x
def c24 : Ctr := ⟨s24, f24⟩
theorem gc24 : GoodC TBOr 24 c24 := good2 (T := TBOr) (f := 24) (K := K38) (c := c24) (F := t24) (nt := ⟨h24, a24⟩) noSpOr gk38 (by kernel_rfl) rfl (by kernel_rfl) (by kernel_rfl) rfl (by kernel_rfl) (by intro N x; kernel_rfl)
def K24 : CTab := fun f svs => bif f.beq 24 then some c24 else K38 f svs
theorem gk24 : GoodK TBOr K24 := by
  intro f svs c h
  unfold K24 at h
  cases hf : f.beq 24 with
  | false => rw [hf] at h; exact gk38 f svs c h
  | true =>
    obtain rfl := Nat.eq_of_beq_eq_true hf
    rw [hf, cond_true] at h
    obtain rfl := Option.some.inj h
    exact ⟨gc24, by kernel_rfl⟩
def h63 (t : Nat) : Option Hn :=
  bif t.beq 5 then some (.ty (.int .i64)) else none
def a63 (i : Nat) : Option Shape :=
  bif i.beq 9 then some ⟨[(0, (.ty (.int .i64))), (4, (.ty (.int .i64)))], [], [], []⟩ else none
def s63 : Sg := ⟨[(.ty (.int .i64))], [], ⟨[(0, (.ty (.int .i64)))], [], [], []⟩⟩
def f63 (N : Nat) (x : s63.inp) : Option s63.res := fnS N K24 t63 ⟨h63, a63⟩ s63 x
def c63 : Ctr := ⟨s63, f63⟩
theorem gc63 : GoodC TBOr 63 c63 := good2 (T := TBOr) (f := 63) (K := K24) (c := c63) (F := t63) (nt := ⟨h63, a63⟩) noSpOr gk24 (by kernel_rfl) rfl (by kernel_rfl) (by kernel_rfl) rfl (by kernel_rfl) (by intro N x; kernel_rfl)
def K63 : CTab := fun f svs => bif f.beq 63 then some c63 else K24 f svs
theorem gk63 : GoodK TBOr K63 := by
  intro f svs c h
  unfold K63 at h
  cases hf : f.beq 63 with
  | false => rw [hf] at h; exact gk24 f svs c h
  | true =>
    obtain rfl := Nat.eq_of_beq_eq_true hf
    rw [hf, cond_true] at h
    obtain rfl := Option.some.inj h
    exact ⟨gc63, by kernel_rfl⟩
def h25 (t : Nat) : Option Hn :=
  bif t.beq 1 then some (.ty .str) else none
def a25 (i : Nat) : Option Shape :=
  none
def s25 : Sg := ⟨[], [], ⟨[(0, (.sla 0 .yes))], [], [], [⟨true, (.many .str)⟩]⟩⟩
def f25 (N : Nat) (x : s25.inp) : Option s25.res := fnS N K63 t25 ⟨h25, a25⟩ s25 x
def c25 : Ctr := ⟨s25, f25⟩
theorem gc25 : GoodC TBOr 25 c25 := good3 (T := TBOr) (f := 25) (K := K63) (c := c25) (F := t25) (nt := ⟨h25, a25⟩) noSpOr gk63 (by kernel_rfl) rfl (by kernel_rfl) (by kernel_rfl) (by intro N x; kernel_rfl)
def K25 : CTab := fun f svs => bif f.beq 25 then some c25 else K63 f svs
theorem gk25 : GoodK TBOr K25 := by
  intro f svs c h
  unfold K25 at h
  cases hf : f.beq 25 with
  | false => rw [hf] at h; exact gk63 f svs c h
  | true =>
    obtain rfl := Nat.eq_of_beq_eq_true hf
    rw [hf, cond_true] at h
    obtain rfl := Option.some.inj h
    exact ⟨gc25, by kernel_rfl⟩
def h68 (t : Nat) : Option Hn :=
  none
def a68 (i : Nat) : Option Shape :=
  bif i.beq 3 then some ⟨[(12, (.ty .bool))], [], [], []⟩ else none
def s68 : Sg := ⟨[(.ty (.int .i64))], [], ⟨[(0, (.ty .str))], [], [], []⟩⟩
def f68 (N : Nat) (x : s68.inp) : Option s68.res := fnS N K25 t68 ⟨h68, a68⟩ s68 x
def c68 : Ctr := ⟨s68, f68⟩
theorem gc68 : GoodC TBOr 68 c68 := good2 (T := TBOr) (f := 68) (K := K25) (c := c68) (F := t68) (nt := ⟨h68, a68⟩) noSpOr gk25 (by kernel_rfl) rfl (by kernel_rfl) (by kernel_rfl) rfl (by kernel_rfl) (by intro N x; kernel_rfl)
def K68 : CTab := fun f svs => bif f.beq 68 then some c68 else K25 f svs
theorem gk68 : GoodK TBOr K68 := by
  intro f svs c h
  unfold K68 at h
  cases hf : f.beq 68 with
  | false => rw [hf] at h; exact gk25 f svs c h
  | true =>
    obtain rfl := Nat.eq_of_beq_eq_true hf
    rw [hf, cond_true] at h
    obtain rfl := Option.some.inj h
    exact ⟨gc68, by kernel_rfl⟩
def h52 (t : Nat) : Option Hn :=
  none
def a52 (i : Nat) : Option Shape :=
  bif i.beq 2 then some ⟨[(2, (.ty .bool))], [], [], []⟩ else none
def s52 : Sg := ⟨[(.ty (.int .i64))], [], ⟨[(0, (.ty .bool))], [], [], []⟩⟩
def f52 (N : Nat) (x : s52.inp) : Option s52.res := fnS N K68 t52 ⟨h52, a52⟩ s52 x
def c52 : Ctr := ⟨s52, f52⟩
theorem gc52 : GoodC TBOr 52 c52 := good2 (T := TBOr) (f := 52) (K := K68) (c := c52) (F := t52) (nt := ⟨h52, a52⟩) noSpOr gk68 (by kernel_rfl) rfl (by kernel_rfl) (by kernel_rfl) rfl (by kernel_rfl) (by intro N x; kernel_rfl)
def K52 : CTab := fun f svs => bif f.beq 52 then some c52 else K68 f svs
theorem gk52 : GoodK TBOr K52 := by
  intro f svs c h
  unfold K52 at h
  cases hf : f.beq 52 with
  | false => rw [hf] at h; exact gk68 f svs c h
  | true =>
    obtain rfl := Nat.eq_of_beq_eq_true hf
    rw [hf, cond_true] at h
    obtain rfl := Option.some.inj h
    exact ⟨gc52, by kernel_rfl⟩
def h62 (t : Nat) : Option Hn :=
  none
def a62 (i : Nat) : Option Shape :=
  bif i.beq 2 then some ⟨[(8, (.ty .bool))], [], [], []⟩ else none
def s62 : Sg := ⟨[(.ty (.int .i64))], [], ⟨[(0, (.ty (.int .i64)))], [], [], []⟩⟩
def f62 (N : Nat) (x : s62.inp) : Option s62.res := fnS N K52 t62 ⟨h62, a62⟩ s62 x
def c62 : Ctr := ⟨s62, f62⟩
theorem gc62 : GoodC TBOr 62 c62 := good2 (T := TBOr) (f := 62) (K := K52) (c := c62) (F := t62) (nt := ⟨h62, a62⟩) noSpOr gk52 (by kernel_rfl) rfl (by kernel_rfl) (by kernel_rfl) rfl (by kernel_rfl) (by intro N x; kernel_rfl)
def K62 : CTab := fun f svs => bif f.beq 62 then some c62 else K52 f svs
theorem gk62 : GoodK TBOr K62 := by
  intro f svs c h
  unfold K62 at h
  cases hf : f.beq 62 with
  | false => rw [hf] at h; exact gk52 f svs c h
  | true =>
    obtain rfl := Nat.eq_of_beq_eq_true hf
    rw [hf, cond_true] at h
    obtain rfl := Option.some.inj h
    exact ⟨gc62, by kernel_rfl⟩
def h53 (t : Nat) : Option Hn :=
  none
def a53 (i : Nat) : Option Shape :=
  bif i.beq 2 then some ⟨[(2, (.ty .bool))], [], [], []⟩ else none
def s53 : Sg := ⟨[(.ty (.int .i64))], [], ⟨[(0, (.ty .bool))], [], [], []⟩⟩
def f53 (N : Nat) (x : s53.inp) : Option s53.res := fnS N K62 t53 ⟨h53, a53⟩ s53 x
def c53 : Ctr := ⟨s53, f53⟩
theorem gc53 : GoodC TBOr 53 c53 := good2 (T := TBOr) (f := 53) (K := K62) (c := c53) (F := t53) (nt := ⟨h53, a53⟩) noSpOr gk62 (by kernel_rfl) rfl (by kernel_rfl) (by kernel_rfl) rfl (by kernel_rfl) (by intro N x; kernel_rfl)
def K53 : CTab := fun f svs => bif f.beq 53 then some c53 else K62 f svs
theorem gk53 : GoodK TBOr K53 := by
  intro f svs c h
  unfold K53 at h
  cases hf : f.beq 53 with
  | false => rw [hf] at h; exact gk62 f svs c h
  | true =>
    obtain rfl := Nat.eq_of_beq_eq_true hf
    rw [hf, cond_true] at h
    obtain rfl := Option.some.inj h
    exact ⟨gc53, by kernel_rfl⟩
def h39 (t : Nat) : Option Hn :=
  bif t.beq 16 then some (.ty (.int .i64)) else bif t.beq 30 then some (.ty (.int .i64)) else none
def a39 (i : Nat) : Option Shape :=
  bif i.beq 2 then some ⟨[(3, (.sla 1 .yes))], [], [], [⟨true, (.many (.int .i64))⟩]⟩ else bif i.beq 3 then some ⟨[(12, (.ty .bool))], [], [], []⟩ else bif i.beq 5 then some ⟨[(3, (.sla 2 .yes))], [], [1], [⟨true, (.many (.int .i64))⟩]⟩ else bif i.beq 6 then some ⟨[(26, (.ty .bool))], [], [], []⟩ else none
def s39 : Sg := ⟨[(.ty (.pair (.int .i64) (.pair (.int .i64) (.pair (.int .i64) (.pair (.int .i64) (.pair (.int .i64) (.pair .bool (.pair .bool (.pair (.int .i64) (.int .i64))))))))))], [], ⟨[(0, (.sla 0 .yes))], [], [], [⟨true, (.many (.int .i64))⟩]⟩⟩
def f39 (N : Nat) (x : s39.inp) : Option s39.res := fnS N K53 t39 ⟨h39, a39⟩ s39 x
def c39 : Ctr := ⟨s39, f39⟩
theorem gc39 : GoodC TBOr 39 c39 := good3 (T := TBOr) (f := 39) (K := K53) (c := c39) (F := t39) (nt := ⟨h39, a39⟩) noSpOr gk53 (by kernel_rfl) rfl (by kernel_rfl) (by kernel_rfl) (by intro N x; kernel_rfl)
def K39 : CTab := fun f svs => bif f.beq 39 then some c39 else K53 f svs
theorem gk39 : GoodK TBOr K39 := by
  intro f svs c h
  unfold K39 at h
  cases hf : f.beq 39 with
  | false => rw [hf] at h; exact gk53 f svs c h
  | true =>
    obtain rfl := Nat.eq_of_beq_eq_true hf
    rw [hf, cond_true] at h
    obtain rfl := Option.some.inj h
    exact ⟨gc39, by kernel_rfl⟩
def h37 (t : Nat) : Option Hn :=
  none
def a37 (i : Nat) : Option Shape :=
  bif i.beq 8 then some ⟨[(5, (.ty (.int .i64)))], [], [], []⟩ else none
def s37 : Sg := ⟨[(.sla 0 .any), (.sla 1 .any)], [⟨false, (.many (.int .i64))⟩, ⟨false, (.many (.int .i64))⟩], ⟨[(0, (.ty .bool))], [], [], []⟩⟩
def f37 (N : Nat) (x : s37.inp) : Option s37.res := fnS N K39 t37 ⟨h37, a37⟩ s37 x
def c37 : Ctr := ⟨s37, f37⟩
theorem gc37 : GoodC TBOr 37 c37 := good1 (T := TBOr) (f := 37) (K := K39) (c := c37) (F := t37) (nt := ⟨h37, a37⟩) noSpOr gk39 (by kernel_rfl) rfl (by kernel_rfl) (by kernel_rfl) (by intro N x; kernel_rfl)
def K37 : CTab := fun f svs => bif f.beq 37 then some c37 else K39 f svs
theorem gk37 : GoodK TBOr K37 := by
  intro f svs c h
  unfold K37 at h
  cases hf : f.beq 37 with
  | false => rw [hf] at h; exact gk39 f svs c h
  | true =>
    obtain rfl := Nat.eq_of_beq_eq_true hf
    rw [hf, cond_true] at h
    obtain rfl := Option.some.inj h
    exact ⟨gc37, by kernel_rfl⟩
def h40 (t : Nat) : Option Hn :=
  none
def a40 (i : Nat) : Option Shape :=
  bif i.beq 4 then some ⟨[(6, (.ty .bool))], [], [], []⟩ else none
def s40 : Sg := ⟨[(.ty (.pair (.int .i64) (.pair (.int .i64) (.pair (.int .i64) (.pair (.int .i64) (.pair (.int .i64) (.pair .bool (.pair .bool (.pair (.int .i64) (.int .i64))))))))))], [], ⟨[(0, (.ty (.int .i64)))], [], [], []⟩⟩
def f40 (N : Nat) (x : s40.inp) : Option s40.res := fnS N K37 t40 ⟨h40, a40⟩ s40 x
def c40 : Ctr := ⟨s40, f40⟩
theorem gc40 : GoodC TBOr 40 c40 := good2 (T := TBOr) (f := 40) (K := K37) (c := c40) (F := t40) (nt := ⟨h40, a40⟩) noSpOr gk37 (by kernel_rfl) rfl (by kernel_rfl) (by kernel_rfl) rfl (by kernel_rfl) (by intro N x; kernel_rfl)
def K40 : CTab := fun f svs => bif f.beq 40 then some c40 else K37 f svs
theorem gk40 : GoodK TBOr K40 := by
  intro f svs c h
  unfold K40 at h
  cases hf : f.beq 40 with
  | false => rw [hf] at h; exact gk37 f svs c h
  | true =>
    obtain rfl := Nat.eq_of_beq_eq_true hf
    rw [hf, cond_true] at h
    obtain rfl := Option.some.inj h
    exact ⟨gc40, by kernel_rfl⟩
def h51 (t : Nat) : Option Hn :=
  none
def a51 (i : Nat) : Option Shape :=
  bif i.beq 2 then some ⟨[(2, (.ty .bool))], [], [], []⟩ else none
def s51 : Sg := ⟨[(.ty (.int .i64))], [], ⟨[(0, (.ty .bool))], [], [], []⟩⟩
def f51 (N : Nat) (x : s51.inp) : Option s51.res := fnS N K40 t51 ⟨h51, a51⟩ s51 x
def c51 : Ctr := ⟨s51, f51⟩
theorem gc51 : GoodC TBOr 51 c51 := good2 (T := TBOr) (f := 51) (K := K40) (c := c51) (F := t51) (nt := ⟨h51, a51⟩) noSpOr gk40 (by kernel_rfl) rfl (by kernel_rfl) (by kernel_rfl) rfl (by kernel_rfl) (by intro N x; kernel_rfl)
def K51 : CTab := fun f svs => bif f.beq 51 then some c51 else K40 f svs
theorem gk51 : GoodK TBOr K51 := by
  intro f svs c h
  unfold K51 at h
  cases hf : f.beq 51 with
  | false => rw [hf] at h; exact gk40 f svs c h
  | true =>
    obtain rfl := Nat.eq_of_beq_eq_true hf
    rw [hf, cond_true] at h
    obtain rfl := Option.some.inj h
    exact ⟨gc51, by kernel_rfl⟩
def h41 (t : Nat) : Option Hn :=
  none
def a41 (i : Nat) : Option Shape :=
  none
def s41 : Sg := ⟨[(.ty (.pair (.int .i64) (.pair (.int .i64) (.pair (.int .i64) (.pair (.int .i64) (.pair (.int .i64) (.pair .bool (.pair .bool (.pair (.int .i64) (.int .i64))))))))))], [], ⟨[(0, (.ty (.int .i64)))], [], [], []⟩⟩
def f41 (N : Nat) (x : s41.inp) : Option s41.res := fnS N K51 t41 ⟨h41, a41⟩ s41 x
def c41 : Ctr := ⟨s41, f41⟩
theorem gc41 : GoodC TBOr 41 c41 := good2 (T := TBOr) (f := 41) (K := K51) (c := c41) (F := t41) (nt := ⟨h41, a41⟩) noSpOr gk51 (by kernel_rfl) rfl (by kernel_rfl) (by kernel_rfl) rfl (by kernel_rfl) (by intro N x; kernel_rfl)
def K41 : CTab := fun f svs => bif f.beq 41 then some c41 else K51 f svs
theorem gk41 : GoodK TBOr K41 := by
  intro f svs c h
  unfold K41 at h
  cases hf : f.beq 41 with
  | false => rw [hf] at h; exact gk51 f svs c h
  | true =>
    obtain rfl := Nat.eq_of_beq_eq_true hf
    rw [hf, cond_true] at h
    obtain rfl := Option.some.inj h
    exact ⟨gc41, by kernel_rfl⟩
def h8 (t : Nat) : Option Hn :=
  none
def a8 (i : Nat) : Option Shape :=
  bif i.beq 5 then some ⟨[(2, (.ty .bool))], [], [], []⟩ else none
def s8 : Sg := ⟨[(.ty (.pair (.int .i64) (.pair (.int .i64) (.pair (.int .i64) (.pair (.int .i64) (.pair (.int .i64) (.pair .bool (.pair .bool (.pair (.int .i64) (.int .i64))))))))))], [], ⟨[(0, (.ty .bool))], [], [], []⟩⟩
def f8 (N : Nat) (x : s8.inp) : Option s8.res := fnS N K41 t8 ⟨h8, a8⟩ s8 x
def c8 : Ctr := ⟨s8, f8⟩
theorem gc8 : GoodC TBOr 8 c8 := good1 (T := TBOr) (f := 8) (K := K41) (c := c8) (F := t8) (nt := ⟨h8, a8⟩) noSpOr gk41 (by kernel_rfl) rfl (by kernel_rfl) (by kernel_rfl) (by intro N x; kernel_rfl)
def K8 : CTab := fun f svs => bif f.beq 8 then some c8 else K41 f svs
theorem gk8 : GoodK TBOr K8 := by
  intro f svs c h
  unfold K8 at h
  cases hf : f.beq 8 with
  | false => rw [hf] at h; exact gk41 f svs c h
  | true =>
    obtain rfl := Nat.eq_of_beq_eq_true hf
    rw [hf, cond_true] at h
    obtain rfl := Option.some.inj h
    exact ⟨gc8, by kernel_rfl⟩
end Go.Proofs.Ytipdancojcdioaa
