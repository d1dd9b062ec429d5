/- The plain laws of the encoder. No condition. -/
import Derived.Test.YtkcfkegkhopakaaPlX4
import Derived.Test.YtkcfkegkhopakaaPlX1
namespace Go.Proofs.Ytkcfkegkhopakaa
open Go Go.Ev Go.Sh
set_option linter.unusedVariables false
set_option linter.unusedSimpArgs false
set_option maxRecDepth 100000

theorem alive07 {N : Nat} (hN : 100 ≤ N) : F7 N = some true := by
  obtain ⟨M, rfl⟩ : ∃ M, N = M + 100 := ⟨N - 100, by omega⟩
  kernel_rfl

theorem EncodeWords_is {N : Nat} (hN : 100 ≤ N) {x : Ins} (hm : x.1 ≤ 9223372036854775807) (hv : I64 x.2.2.2.2.1) : F3 N x = some true := by
  unfold F3
  rw [alive07 hN, rRight_is hN hm, RightP_is hN hv]
  cases hr : rightB x with
  | false =>
    rw [Encode_wrong hN hv hr]
    rfl
  | true =>
    obtain ⟨k, rd, r1, r2, v, aq, rl, p, s, h⟩ := right_rt hr
    have hv' : I64 v := by have := hv; rw [h.eq] at this; exact this
    obtain ⟨e1, e2⟩ := Encode_right hN h hv' hr
    rw [e1, rWord_is hN h]
    simp only [bindS_some, jp_eq]
    rfl

theorem imm_I64 {n k : Nat} (hn : n < 4294967296) : I64 (immN n k) := by
  have h := imm_ok (k := k) hn
  unfold immOK at h
  have hle := fmtO_le k
  by_cases h6 : shf k = 6
  · rw [if_pos h6] at h
    simp only [Bool.and_eq_true, decide_eq_true_eq] at h; exact ⟨by omega, by omega⟩
  · rw [if_neg h6] at h
    by_cases h5 : shf k = 5
    · rw [if_pos h5] at h
      simp only [Bool.and_eq_true, decide_eq_true_eq] at h; exact ⟨by omega, by omega⟩
    · rw [if_neg h5] at h
      by_cases hf : fmtO k = 0
      · rw [if_pos hf] at h
        have := of_decide_eq_true h
        exact ⟨by omega, by omega⟩
      · rw [if_neg hf] at h
        have hc : fmtO k = 1 ∨ fmtO k = 2 ∨ fmtO k = 3 ∨ fmtO k = 4 ∨ fmtO k = 5 := by omega
        generalize fmtO k = f at h hc
        rcases hc with rfl | rfl | rfl | rfl | rfl <;> simp only [mayB, Bool.and_eq_true, decide_eq_true_eq] at h <;> exact ⟨by omega, by omega⟩

/-- Encode of a word's instruction -/
theorem Encode_ins {N : Nat} (hN : 100 ≤ N) {n : Nat} (hn : n < 4294967296) (h0 : dOp n ≠ 0) : F8 N (insN n (dOp n)) = some (((fenceMask (dOp n) n : Nat) : Int), 0) := by
  have src : Src n (dOp n) _ _ _ _ _ _ _ _ := ⟨rfl, rfl, rfl, rfl, rfl, rfl, rfl, rfl⟩
  have h1 : 1 ≤ dOp n := by omega
  have rt := rt_of hn h1 (dOp_le n) src
  rw [← word_ins hn rfl h1 src]
  exact (Encode_right hN rt (imm_I64 hn) (rt_right rt)).1

/-- Decode of a right instruction's word -/
theorem Decode_word {N : Nat} (hN : 100 ≤ N) {x : Ins} {k rd r1 r2 : Nat} {v : Int} {aq rl : Bool} {p s : Nat} (h : Rt x k rd r1 r2 v aq rl p s) : F12 N (wordN k rd r1 r2 v aq rl p s : Nat) = some (x, 0) := by
  obtain ⟨h1, h2, h3⟩ := ins_word h
  have hk := h.k1
  rw [Decode_is hN h1, h2, if_neg (by omega), h3]

theorem EncodeBack_is {N : Nat} (hN : 100 ≤ N) {x : Ins} (hv : I64 x.2.2.2.2.1) {n : Nat} (hn : n < 4294967296) : F4 N x n = some true := by
  have second : (bindS (F12 N n) (fun (y3 : Ins × Int) => br (!decide (y3.2 = 0))
 (bindS (F7 N ) (fun (y4 : Bool) => some y4))
 (bindS (F8 N y3.1) (fun (y5 : Int × Int) => br (decide (y3.1.1 = 50))
 (jp (fun (y6 : Bool) => some y6)
 (fun K7 => bindS (F7 N ) (fun (y8 : Bool) => br y8
 (br (decide (y5.2 = 0))
 (K7 (decide (y5.1 = Go.bits Go.BinOp.and IntKind.u32 n 267415679)))
 (K7 Bool.false))
 (K7 Bool.false))))
 (br (decide (y3.1.1 = 51))
 (jp (fun (y9 : Bool) => some y9)
 (fun K10 => bindS (F7 N ) (fun (y11 : Bool) => br y11
 (br (decide (y5.2 = 0))
 (K10 (decide (y5.1 = Go.bits Go.BinOp.and IntKind.u32 n 4293947519)))
 (K10 Bool.false))
 (K10 Bool.false))))
 (jp (fun (y12 : Bool) => some y12)
 (fun K13 => bindS (F7 N ) (fun (y14 : Bool) => br y14
 (br (decide (y5.2 = 0))
 (K13 (decide (y5.1 = n)))
 (K13 Bool.false))
 (K13 Bool.false))))))))) = some true := by
    rw [Decode_is hN hn, alive07 hN]
    by_cases h0 : dOp n = 0
    · rw [if_pos h0]; rfl
    · rw [if_neg h0, bindS_some]
      have ha1 : bits .and .u32 (n : Int) 267415679 = ((n &&& 267415679 : Nat) : Int) := and32 (y := 267415679) hn (by decide)
      have ha2 : bits .and .u32 (n : Int) 4293947519 = ((n &&& 4293947519 : Nat) : Int) := and32 (y := 4293947519) hn (by decide)
      have hi : (insN n (dOp n)).1 = (dOp n : Int) := rfl
      simp only [hi]
      rw [br_false (by simp), Encode_ins hN hn h0, bindS_some, ha1, ha2]
      simp only [bindS_some, jp_eq]
      unfold fenceMask
      by_cases h50 : dOp n = 50
      · rw [brT (by omega), br_t, brT trivial, if_pos h50, decide_eq_true rfl]
      · rw [brF (by omega)]
        by_cases h51 : dOp n = 51
        · rw [brT (by omega), br_t, brT trivial, if_neg h50, if_pos h51, decide_eq_true rfl]
        · rw [brF (by omega), br_t, brT trivial, if_neg h50, if_neg h51, decide_eq_true rfl]
  unfold F4
  rw [alive07 hN, bindS_some, Bool.not_true, br_f]
  have hs2 := second
  rw [alive07 hN] at hs2
  cases hr : rightB x with
  | false =>
    rw [Encode_wrong hN hv hr, bindS_some]
    rw [jp_val (v := ()) (h := fun K => brF (by decide))]
    exact hs2
  | true =>
    obtain ⟨k, rd, r1, r2, v, aq, rl, p, s, h⟩ := right_rt hr
    have hv' : I64 v := by have := hv; rw [h.eq] at this; exact this
    obtain ⟨e1, e2⟩ := Encode_right hN h hv' hr
    rw [e1, bindS_some]
    rw [jp_val (v := ())]
    · exact hs2
    · intro K
      rw [brT rfl, Decode_word hN h, bindS_some]
      rw [jp_val (v := false)]
      · rfl
      · intro K2
        have e : InsT.eq x x = true := (insEq x x).2 rfl
        show K2 (!InsT.eq x x) = K2 false
        rw [e]; rfl

theorem EncodeUnlike_is {N : Nat} (hN : 100 ≤ N) {x y : Ins} (hv : I64 x.2.2.2.2.1) (hw : I64 y.2.2.2.2.1) : F5 N x y = some true := by
  unfold F5
  rw [alive07 hN, bindS_some, Bool.not_true, br_f]
  simp only [jp_eq, bindS_some, br_t]
  cases hr : rightB x with
  | false =>
    rw [Encode_wrong hN hv hr, bindS_some]
    cases hr2 : rightB y with
    | false => rw [Encode_wrong hN hw hr2]; rfl
    | true =>
      obtain ⟨k', rd', r1', r2', v', aq', rl', p', s', h'⟩ := right_rt hr2
      have hv2 : I64 v' := by have := hw; rw [h'.eq] at this; exact this
      rw [(Encode_right hN h' hv2 hr2).1]; rfl
  | true =>
    obtain ⟨k, rd, r1, r2, v, aq, rl, p, s, h⟩ := right_rt hr
    have hv1 : I64 v := by have := hv; rw [h.eq] at this; exact this
    rw [(Encode_right hN h hv1 hr).1, bindS_some]
    cases hr2 : rightB y with
    | false => rw [Encode_wrong hN hw hr2]; rfl
    | true =>
      obtain ⟨k', rd', r1', r2', v', aq', rl', p', s', h'⟩ := right_rt hr2
      have hv2 : I64 v' := by have := hw; rw [h'.eq] at this; exact this
      rw [(Encode_right hN h' hv2 hr2).1, bindS_some]
      show some (decide (((wordN k rd r1 r2 v aq rl p s : Nat) : Int) = ((wordN k' rd' r1' r2' v' aq' rl' p' s' : Nat) : Int)) == InsT.eq x y) = some true
      congr 1
      rw [beq_iff_eq, Bool.eq_iff_iff, decide_eq_true_eq, insEq]
      constructor
      · intro he
        have he : wordN k rd r1 r2 v aq rl p s = wordN k' rd' r1' r2' v' aq' rl' p' s' := by omega
        obtain ⟨_, a2, a3⟩ := ins_word h
        obtain ⟨_, b2, b3⟩ := ins_word h'
        rw [he] at a2 a3
        rw [← a3, ← b3, ← a2, b2]
      · rintro rfl
        have q1 := (Encode_right hN h hv1 hr).1
        have q2 := (Encode_right hN h' hv2 hr2).1
        rw [q1] at q2
        simpa using q2

/-! ### by the arguments' ranges -/
theorem L_EncodeWords (x : Ins) (h : (Ty.int .i64).wf x.1) (g : (Ty.int .i64).wf x.2.2.2.2.1) : F3 100 x = some true := EncodeWords_is (Nat.le_refl _) (i64_rng h).2 (i64_rng g)
theorem L_EncodeBack (x : Ins) (n : Int) (g : (Ty.int .i64).wf x.2.2.2.2.1) (hw : (Ty.int .u32).wf n) : F4 100 x n = some true := by
  obtain ⟨n, hn, rfl⟩ := u32_nat hw
  exact EncodeBack_is (Nat.le_refl _) (i64_rng g) hn
theorem L_EncodeUnlike (x y : Ins) (g : (Ty.int .i64).wf x.2.2.2.2.1) (h : (Ty.int .i64).wf y.2.2.2.2.1) : F5 100 x y = some true := EncodeUnlike_is (Nat.le_refl _) (i64_rng g) (i64_rng h)
end Go.Proofs.Ytkcfkegkhopakaa
