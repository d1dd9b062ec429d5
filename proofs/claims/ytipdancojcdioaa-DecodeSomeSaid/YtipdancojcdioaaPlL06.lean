/- The plain laws of the decoder. No condition. -/
import Derived.Test.YtipdancojcdioaaPlDec3
namespace Go.Proofs.Ytipdancojcdioaa
open Go Go.Ev Go.Sh
set_option linter.unusedVariables false
set_option linter.unusedSimpArgs false
set_option maxRecDepth 100000

theorem alive06 (M : Nat) : F46 (M + 100) = some true := by kernel_rfl
theorem alive06' {N : Nat} (hN : 100 ≤ N) : F46 N = some true := by
  obtain ⟨M, rfl⟩ : ∃ M, N = M + 100 := ⟨N - 100, by omega⟩
  exact alive06 M

theorem tyEq_refl : ∀ (t : Ty) (x : t.den), Ty.eq t x x = true := by
  intro t
  induction t with
  | int k => intro x; simp [Ty.eq]
  | flt k => intro x; simp [Ty.eq]
  | bool => intro x; simp [Ty.eq]
  | str => intro x; simp [Ty.eq]
  | unit => intro x; rfl
  | one a ih => intro x; exact ih x
  | pair a b iha ihb => intro x; simp [Ty.eq, iha, ihb]
  | arr n t ih =>
    intro x
    show eqN t.eq t.dflt n x x = true
    have : ∀ (n : Nat) (xs : List t.den), eqN t.eq t.dflt n xs xs = true := by
      intro n
      induction n with
      | zero => intro xs; rfl
      | succ n ihn => intro xs; simp [eqN, ih, ihn]
    exact this n x

theorem one_is {N : Nat} (hN : 100 ≤ N) {n : Nat} (hn : n < 4294967296) : F47 N n = some true := by
  unfold F47
  rw [Decode_is hN hn, rDecode_is hN hn]
  by_cases h : dOp n = 0
  · simp only [if_pos h, bindS_some, jp_eq]
    rw [br_true (tyEq_refl _ _)]
    rfl
  · simp only [if_neg h, bindS_some, jp_eq]
    rw [br_true (tyEq_refl _ _)]
    rfl

theorem DecodeWords_is {N : Nat} (hN : 100 ≤ N) {n : Nat} (hn : n < 4294967296) : F11 N n = some true := by
  unfold F11
  rw [alive06' hN, bindS_some]
  simp only [Bool.not_true, br_f]
  refine fixN_ind (fun m (y : Int) => ∃ i : Nat, y = i ∧ i + m = 32) (fun _ o => o = some true) ?_ N 32 0 (by omega) ⟨0, rfl, rfl⟩
  rintro m y again ⟨i, rfl, hi⟩ ih
  rcases Nat.eq_zero_or_pos m with h0 | h0
  · rw [brF (by omega)]
    simp only [jp_eq]
    rw [bindS_some, br_t, one_is hN hn, bindS_some]
  · rw [brT (by omega), u64N (by omega), chkT (by omega), Int.toNat_natCast, bits_u32, Nat.min_eq_left (by omega), Int.one_mul, powI]
    have hp : 2 ^ i < 4294967296 := Nat.pow_lt_pow_right (a := 2) (n := 32) (by decide) (by omega)
    rw [u32N hp, xor32 hn hp, one_is hN (Nat.xor_lt_two_pow (n := 32) hn hp), bindS_some]
    simp only [Bool.not_true, br_f]
    rw [wrap64 (by omega) (by omega)]
    exact ih (m - 1) _ (by omega) ⟨i + 1, by omega, by omega⟩

theorem lt32_or {a b : Nat} (ha : a < 4294967296) (hb : b < 4294967296) : a ||| b < 4294967296 := Nat.or_lt_two_pow (n := 32) ha hb
theorem lt32_and {a b : Nat} (ha : a < 4294967296) : a &&& b < 4294967296 := Nat.lt_of_le_of_lt Nat.and_le_left ha

theorem opc_le {k : Nat} (h1 : 1 ≤ k) (h2 : k ≤ 75) : opc k < 128 ∧ f3O k < 8 := by
  have h : ((List.range 75).all fun i => decide (opc (i + 1) < 128) && decide (f3O (i + 1) < 8)) = true := by kernel_rfl
  have := List.all_eq_true.1 h (k - 1) (List.mem_range.2 (by omega))
  rw [show k - 1 + 1 = k by omega] at this
  simpa using this

theorem Opcodes_is {N : Nat} (hN : 100 ≤ N) (op : Int) (hm : op ≤ 9223372036854775807) : ∃ c, F49 N op = some c ∧ F48 N op = some c := by
  by_cases h : op < 1 ∨ 75 < op
  · exact ⟨0, opcode_out hN h hm⟩
  · obtain ⟨k, hk⟩ : ∃ k : Nat, op = (k : Int) := ⟨op.toNat, by omega⟩
    subst hk
    have tb := tab_is hN (k := k) (by omega) (by omega)
    exact ⟨_, tb.opcP, tb.opcR⟩

theorem DecodeFields_is {N : Nat} (hN : 100 ≤ N) (op : Int) (hm : op ≤ 9223372036854775807) {n : Nat} (hn : n < 4294967296) : F12 N op n = some true := by
  unfold F12
  rw [alive06' hN, bindS_some]
  simp only [Bool.not_true, br_f]
  refine fixN_ind (fun m (y : Int) => ∃ i : Nat, y = i ∧ 1 ≤ i ∧ i + m = 76) (fun _ o => o = some true) ?_ N 75 1 (by omega) ⟨1, rfl, by omega, rfl⟩
  rintro m y again ⟨i, rfl, h1, hi⟩ ih
  rcases Nat.eq_zero_or_pos m with h0 | h0
  · rw [brF (by omega)]
    simp only [jp_eq]
    obtain ⟨c, h2, h3⟩ := Opcodes_is hN op hm
    rw [bindS_some, br_t, h2, bindS_some, h3, bindS_some, decide_eq_true rfl]
  · have tb := tab_is hN (k := i) h1 (by omega)
    obtain ⟨o1, o2⟩ := opc_le h1 (show i ≤ 75 by omega)
    have a1 : bits .andNot .u32 (n : Int) 127 = ((n &&& (4294967295 - 127) : Nat) : Int) := andNot32 (y := 127) hn (by decide)
    have a2 : bits .andNot .u32 (n : Int) 4261441663 = ((n &&& (4294967295 - 4261441663) : Nat) : Int) := andNot32 (y := 4261441663) hn (by decide)
    have b1 : n &&& (4294967295 - 127) < 4294967296 := lt32_and hn
    have b2 : n &&& (4294967295 - 4261441663) < 4294967296 := lt32_and hn
    have e : IntKind.u32.wrap ((f3O i : Int) * 2 ^ min 12 IntKind.u32.bits) = ((f3O i * 4096 : Nat) : Int) := by
      rw [show min 12 IntKind.u32.bits = 12 from rfl, show ((2 : Int) ^ 12) = 4096 from rfl]
      rw [show (f3O i : Int) * 4096 = ((f3O i * 4096 : Nat) : Int) by omega, u32N (by omega)]
    rw [brT (by omega), tb.opcR, bindS_some]
    simp only [jp_eq]
    rw [tb.opcP, bindS_some, decide_eq_true rfl]
    simp only [Bool.not_true, br_f]
    rw [a1, or32 b1 (by omega), one_is hN (lt32_or b1 (by omega)), bindS_some]
    simp only [Bool.not_true, br_f]
    rw [tb.f3R, bindS_some, a2, or32 b2 (by omega), e, or32 (lt32_or b2 (by omega)) (by omega), one_is hN (lt32_or (lt32_or b2 (by omega)) (by omega)), bindS_some]
    simp only [Bool.not_true, br_f]
    rw [wrap64 (by omega) (by omega)]
    exact ih (m - 1) _ (by omega) ⟨i + 1, by omega, by omega, by omega⟩

theorem DecodeCleans_is {N : Nat} (hN : 100 ≤ N) (x : Ins) (hm : x.1 ≤ 9223372036854775807) : F13 N x = some true := by
  obtain ⟨r1, r2, r3⟩ := rRegs_is hN x.1 hm
  unfold F13
  rw [alive06' hN, bindS_some]
  simp only [Bool.not_true, br_f, jp_eq, r1, r2, r3, bindS_some, Clean_is hN]
  unfold clean
  cases wrO x.1 <;> cases fiO x.1 <;> cases seO x.1 <;> simp only [Bool.not_true, Bool.not_false, br_f, br_t, if_true, if_false, Bool.false_eq_true] <;> exact congrArg some (tyEq_refl _ _)

theorem insN_fence {n : Nat} (h : dOp n = 50) : insN n (dOp n) = ((50, 0, 0, 0, 0, false, false, ((fld n 24 4 : Nat) : Int), ((fld n 20 4 : Nat) : Int)) : Ins) := by rw [h]; rfl
theorem insN_tso {n : Nat} (h : dOp n = 51) : insN n (dOp n) = (51, 0, 0, 0, 0, false, false, 3, 3) := by rw [h]; rfl

theorem fence_op {n : Nat} (h1 : n % 128 = 15) (h2 : fld n 12 3 = 0) (h3 : n / 2 ^ 20 ≠ 2099) : dOp n = 50 := by
  rw [dOp_at h1, h2, beq_eq_false_iff_ne.2 h3]; rfl

theorem DecodeSome_is {N : Nat} (hN : 100 ≤ N) {n o : Nat} (hn : n < 4294967296) (ho : o < 4294967296) : F14 N n o = some true := by
  have a1 : bits .and .u32 (n : Int) 267386880 = ((n &&& 267386880 : Nat) : Int) := and32 (y := 267386880) hn (by decide)
  have a2 : bits .and .u32 (o : Int) 1019776 = ((o &&& 1019776 : Nat) : Int) := and32 (y := 1019776) ho (by decide)
  have b1 : n &&& 267386880 < 4294967296 := lt32_and hn
  have b2 : o &&& 1019776 < 4294967296 := lt32_and ho
  have a3 : bits .or .u32 ((n &&& 267386880 : Nat) : Int) 15 = (((n &&& 267386880) ||| 15 : Nat) : Int) := or32 (y := 15) b1 (by decide)
  have b3 : (n &&& 267386880) ||| 15 < 4294967296 := lt32_or b1 (by decide)
  have b4 : ((n &&& 267386880) ||| 15) ||| (o &&& 1019776) < 4294967296 := lt32_or b3 b2
  -- the fields of both words
  have hq : ∀ w : Nat, fld w 0 7 = w % 128 := fun w => by rw [fld_def]; simp
  have z : ∀ lo k c : Nat, fld c lo k = 0 → ∀ x, fld (x &&& c) lo k = 0 := fun lo k c h x => by rw [fld_and, h, Nat.and_zero]
  have c1 : ((n &&& 267386880) ||| 15) % 128 = 15 := by rw [← hq, fld_or, z 0 7 _ (by rw [fld_def])]; rw [fld_def]; rfl
  have c2 : fld ((n &&& 267386880) ||| 15) 12 3 = 0 := by rw [fld_or, z 12 3 _ (by rw [fld_def])]; rw [fld_def]; rfl
  have c3 : ((n &&& 267386880) ||| 15) / 2 ^ 20 ≠ 2099 := by
    have h : fld ((n &&& 267386880) ||| 15) 28 4 = 0 := by rw [fld_or, z 28 4 _ (by rw [fld_def])]; rw [fld_def]; rfl
    rw [fld_def] at h
    omega
  have d1 : (((n &&& 267386880) ||| 15) ||| (o &&& 1019776)) % 128 = 15 := by rw [← hq, fld_or, hq, c1, z 0 7 _ (by rw [fld_def])]; rfl
  have d2 : fld (((n &&& 267386880) ||| 15) ||| (o &&& 1019776)) 12 3 = 0 := by rw [fld_or, c2, z 12 3 _ (by rw [fld_def])]; rfl
  have d4 : fld (((n &&& 267386880) ||| 15) ||| (o &&& 1019776)) 24 4 = fld ((n &&& 267386880) ||| 15) 24 4 := by rw [fld_or, z 24 4 _ (by rw [fld_def]), Nat.or_zero]
  have d5 : fld (((n &&& 267386880) ||| 15) ||| (o &&& 1019776)) 20 4 = fld ((n &&& 267386880) ||| 15) 20 4 := by rw [fld_or, z 20 4 _ (by rw [fld_def]), Nat.or_zero]
  have d3 : (((n &&& 267386880) ||| 15) ||| (o &&& 1019776)) / 2 ^ 20 ≠ 2099 := by
    have h : fld (((n &&& 267386880) ||| 15) ||| (o &&& 1019776)) 28 4 = 0 := by rw [fld_or, fld_or, z 28 4 _ (by rw [fld_def]), z 28 4 _ (by rw [fld_def])]; rw [fld_def]; rfl
    rw [fld_def] at h
    omega
  have o1 := fence_op c1 c2 c3
  have o2 := fence_op d1 d2 d3
  unfold F14
  rw [alive06' hN, bindS_some]
  simp only [Bool.not_true, br_f]
  rw [a1, a2, a3, or32 b3 b2, Decode_is hN hn, Decode_is hN b3, Decode_is hN b4, o1, o2, code_is hn]
  have e1 : insN ((n &&& 267386880) ||| 15) 50 = ((50, 0, 0, 0, 0, false, false, ((fld ((n &&& 267386880) ||| 15) 24 4 : Nat) : Int), ((fld ((n &&& 267386880) ||| 15) 20 4 : Nat) : Int)) : Ins) := rfl
  have e2 : insN (((n &&& 267386880) ||| 15) ||| (o &&& 1019776)) 50 = ((50, 0, 0, 0, 0, false, false, ((fld ((n &&& 267386880) ||| 15) 24 4 : Nat) : Int), ((fld ((n &&& 267386880) ||| 15) 20 4 : Nat) : Int)) : Ins) := by
    rw [← d4, ← d5]; rfl
  simp only [if_neg (show ¬ (50 = 0) by decide), e1, e2, bindS_some, jp_eq]
  by_cases h0 : dOp n = 0
  · rw [if_pos h0]
    simp only [bindS_some]
    rw [brF (by decide), br_f, br_t, brT trivial, brT trivial, br_true (tyEq_refl _ _)]
    rfl
  · rw [if_neg h0]
    have hc := dOp_opc hn h0
    have tb := tab_is hN (k := dOp n) (by omega) (dOp_le n)
    have hi : (insN n (dOp n)).1 = (dOp n : Int) := rfl
    simp only [bindS_some, hi]
    rw [brT trivial, tb.opcP, bindS_some, hc, decide_eq_true rfl]
    simp only [Bool.not_true, br_f]
    rw [br_t, brT trivial, brT trivial, br_true (tyEq_refl _ _)]
    rfl

/-! ### by the arguments' ranges -/
theorem u32_nat {x : Int} (h : (Ty.int .u32).wf x) : ∃ n : Nat, n < 4294967296 ∧ x = n := by
  have h : (Lit.int .u32 x).wf = true := h
  simp only [Lit.wf, Bool.and_eq_true, decide_eq_true_eq, IntKind.min, IntKind.max, IntKind.signed, IntKind.bits] at h
  simp at h
  exact ⟨x.toNat, by omega, by omega⟩
theorem i64_rng {x : Int} (h : (Ty.int .i64).wf x) : -9223372036854775808 ≤ x ∧ x ≤ 9223372036854775807 := by
  have h : (Lit.int .i64 x).wf = true := h
  simp only [Lit.wf, Bool.and_eq_true, decide_eq_true_eq, IntKind.min, IntKind.max, IntKind.signed, IntKind.bits] at h
  simp at h
  omega
theorem L_DecodeWords (x : Int) (g : (Ty.int .u32).wf x) : F11 100 x = some true := by
  obtain ⟨n, hn, rfl⟩ := u32_nat g
  exact DecodeWords_is (Nat.le_refl _) hn
theorem L_DecodeFields (y x : Int) (h : (Ty.int .i64).wf y) (g : (Ty.int .u32).wf x) : F12 100 y x = some true := by
  obtain ⟨n, hn, rfl⟩ := u32_nat g
  exact DecodeFields_is (Nat.le_refl _) y (i64_rng h).2 hn
theorem L_DecodeCleans (x : Ins) (h : (Ty.int .i64).wf x.1) : F13 100 x = some true := DecodeCleans_is (Nat.le_refl _) x (i64_rng h).2
theorem L_DecodeSome (x y : Int) (g : (Ty.int .u32).wf x) (h : (Ty.int .u32).wf y) : F14 100 x y = some true := by
  obtain ⟨n, hn, rfl⟩ := u32_nat g
  obtain ⟨m, hm, rfl⟩ := u32_nat h
  exact DecodeSome_is (Nat.le_refl _) hn hm
end Go.Proofs.Ytipdancojcdioaa
