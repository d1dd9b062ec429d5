/- Encode, by the program and by the document. No condition. -/
import Derived.Test.YtkcfkegkhopakaaGreatDoorPlX3
namespace Go.Proofs.YtkcfkegkhopakaaGreatDoor
open Go Go.Ev Go.Sh
set_option linter.unusedVariables false
set_option linter.unusedSimpArgs false
set_option maxRecDepth 100000

abbrev Fd := Nat × Nat × Nat × Nat × Nat × Nat
noncomputable def mkT (t : Fd) : Nat := mk t.1 t.2.1 t.2.2.1 t.2.2.2.1 t.2.2.2.2.1 t.2.2.2.2.2
def okT (t : Fd) : Prop := t.1 < 128 ∧ t.2.1 < 32 ∧ t.2.2.1 < 8 ∧ t.2.2.2.1 < 32 ∧ t.2.2.2.2.1 < 32
def orT (t u : Fd) : Fd := (t.1 ||| u.1, t.2.1 ||| u.2.1, t.2.2.1 ||| u.2.2.1, t.2.2.2.1 ||| u.2.2.2.1, t.2.2.2.2.1 ||| u.2.2.2.2.1, t.2.2.2.2.2 ||| u.2.2.2.2.2)

theorem or_T {x t : Fd} (hx : okT x) (ht : okT t) : mkT x ||| mkT t = mkT (orT x t) := by
  obtain ⟨a, b, c, d, e, f⟩ := x
  obtain ⟨a', b', c', d', e', f'⟩ := t
  simp only [okT] at hx ht
  simp only [mkT, orT]
  exact or_mk hx.1 ht.1 hx.2.1 ht.2.1 hx.2.2.1 ht.2.2.1 hx.2.2.2.1 ht.2.2.2.1 hx.2.2.2.2 ht.2.2.2.2
theorem ok_T {x t : Fd} (hx : okT x) (ht : okT t) : okT (orT x t) := by
  obtain ⟨a, b, c, d, e, f⟩ := x
  obtain ⟨a', b', c', d', e', f'⟩ := t
  simp only [okT] at hx ht
  simp only [okT, orT]
  exact ⟨Nat.or_lt_two_pow (n := 7) hx.1 ht.1, Nat.or_lt_two_pow (n := 5) hx.2.1 ht.2.1, Nat.or_lt_two_pow (n := 3) hx.2.2.1 ht.2.2.1, Nat.or_lt_two_pow (n := 5) hx.2.2.2.1 ht.2.2.2.1, Nat.or_lt_two_pow (n := 5) hx.2.2.2.2 ht.2.2.2.2⟩

theorem or_list (l : List Fd) : ∀ x : Fd, okT x → (∀ t ∈ l, okT t) → (l.map mkT).foldl (· ||| ·) (mkT x) = mkT (l.foldl orT x) := by
  induction l with
  | nil => intro x _ _; simp only [List.map_nil, List.foldl_nil]
  | cons t l ih =>
    intro x hx h
    have ht := h t List.mem_cons_self
    rw [List.map_cons, List.foldl_cons, List.foldl_cons, or_T hx ht]
    exact ih _ (ok_T hx ht) fun t ht => h t (List.mem_cons_of_mem _ ht)

theorem zbit2 (b : Bool) : (if b then 2 ^ 26 else 0) = mk 0 0 0 0 0 (if b then 2 else 0) := by
  cases b
  · simp only [mk_def, Bool.false_eq_true, if_false, Nat.zero_mul, Nat.add_zero]
  · simp only [mk_def, if_true, Nat.zero_mul, Nat.zero_add, Nat.reducePow, Nat.reduceMul]
theorem zbit1 (b : Bool) : (if b then 2 ^ 25 else 0) = mk 0 0 0 0 0 (if b then 1 else 0) := by
  cases b
  · simp only [mk_def, Bool.false_eq_true, if_false, Nat.zero_mul, Nat.add_zero]
  · simp only [mk_def, if_true, Nat.zero_mul, Nat.zero_add, Nat.reducePow, Nat.reduceMul]

theorem zshl24 (p : Nat) : p * 2 ^ 24 = mk 0 0 0 0 (p % 2 * 16) (p / 2) := by have := mk_def 0 0 0 0 (p % 2 * 16) (p / 2); omega
theorem zshl20 (s : Nat) : s * 2 ^ 20 = mk 0 0 0 0 s 0 := by have := mk_def 0 0 0 0 s 0; omega

theorem xi_lt {k : Nat} {v : Int} (h : immOK k v = true) : xi4 k v < 32 ∧ xi5 k v < 128 := by
  obtain ⟨q1, q2, q3, q4, q5⟩ := p_lt (fmtO k) (uN v)
  unfold xi4 xi5
  by_cases h0 : 0 < shf k
  · obtain ⟨_, h1, _⟩ := imm_shf h h0
    simp only [if_pos h0]
    omega
  · simp only [if_neg h0]
    exact ⟨q4, q5⟩

theorem wordN_eq {k rd r1 r2 : Nat} {v : Int} {aq rl : Bool} {p s : Nat} :
    wordN k rd r1 r2 v aq rl p s = mk (opc k) (rd + p1 (fmtO k) (uN v)) (f3O k + p2 (fmtO k) (uN v)) (r1 + p3 (fmtO k) (uN v)) (r2 + xi4 k v + hiA k + p % 2 * 16 + s) (xi5 k v + hiB k + (if aq then 2 else 0) + (if rl then 1 else 0) + p / 2) := by
  unfold wordN
  obtain ⟨e1, e2⟩ := @xi_is k v
  rw [← e1, ← e2]
  simp only [mk_def]
  omega

theorem bit_part (N : Nat) (b : Bool) (i : Nat) (h : i < 32) : F110 N b (i : Int) = some ((if b then 2 ^ i else 0 : Nat) : Int) := by
  unfold F110
  cases b with
  | false => rfl
  | true =>
    have : 2 ^ i < 4294967296 := Nat.pow_lt_pow_right (a := 2) (n := 32) (by decide) h
    rw [br_t, chkT (by omega), Int.toNat_natCast, bits_u32, Nat.min_eq_left (by omega), Int.one_mul, powI, u32N this]
    rfl

theorem shl_is (a k : Nat) (h : a * 2 ^ k < 4294967296) (hk : k ≤ 32) : IntKind.u32.wrap (IntKind.u32.wrap (a : Int) * 2 ^ min k IntKind.u32.bits) = ((a * 2 ^ k : Nat) : Int) := by
  have : a ≤ a * 2 ^ k := Nat.le_mul_of_pos_right _ (Nat.two_pow_pos k)
  rw [u32N (by omega), bits_u32, Nat.min_eq_left hk, powI, ← Int.natCast_mul, u32N h]

theorem mk_lt {a b c d e f : Nat} (ha : a < 128) (hb : b < 32) (hc : c < 8) (hd : d < 32) (he : e < 32) (hf : f < 128) : mk a b c d e f < 4294967296 := (mk_fields ha hb hc hd he hf).1

theorem Encode_right {N : Nat} (hN : 100 ≤ N) {x : Ins} {k rd r1 r2 : Nat} {v : Int} {aq rl : Bool} {p s : Nat} (h : Rt x k rd r1 r2 v aq rl p s) (hv : I64 v) (hr : rightB x = true) :
    F57 N x = some (((wordN k rd r1 r2 v aq rl p s : Nat) : Int), 0) ∧ wordN k rd r1 r2 v aq rl p s < 4294967296 := by
  have ft := fact_is hN h.k1 h.k2
  obtain ⟨en1, en2, en3⟩ := en_is hN h.k1 h.k2
  have tb := tab_is hN h.k1 h.k2
  obtain ⟨b1, b2, b3⟩ := parts1 h
  obtain ⟨b4, b5⟩ := or45 h
  obtain ⟨x4, x5⟩ := xi_lt h.im
  obtain ⟨q1, q2, q3, q4, q5⟩ := p_lt (fmtO k) (uN v)
  have l0 := ft.oc
  have l1 := h.rd1
  have l2 := ft.f3
  have l3 := h.r11
  have l4 := h.r21
  have l5 := ft.hBl
  have l6 : hiA k < 32 := by unfold hiA; split <;> decide
  obtain ⟨l7, l8⟩ := h.ps
  have hx := h.eq
  have himm := immediate_is hN h.k1 h.k2 (x := x) (by rw [hx]) (by rw [hx]; exact hv)
  have hwl : wordN k rd r1 r2 v aq rl p s < 4294967296 := by
    rw [wordN_eq]
    exact mk_lt l0 b1.2 b2.2 b3.2 b4.2 b5.2
  refine ⟨?_, hwl⟩
  unfold F57 R57
  rw [RightP_is hN (by rw [hx]; exact hv), hr, bindS_some, himm]
  subst hx
  simp only [Bool.not_true, br_f, bindS_some, tb.opcP, en3, ft.hi, h.im]
  have c26 := bit_part N aq 26 (by decide)
  have c25 := bit_part N rl 25 (by decide)
  rw [show ((26 : Nat) : Int) = 26 from rfl] at c26
  rw [show ((25 : Nat) : Int) = 25 from rfl] at c25
  simp only [c26, c25, bindS_some]
  have s1 := shl_is rd 7 (by omega) (by decide)
  have s2 : IntKind.u32.wrap ((f3O k : Int) * 2 ^ min 12 IntKind.u32.bits) = ((f3O k * 2 ^ 12 : Nat) : Int) := by
    have := shl_is (f3O k) 12 (by omega) (by decide)
    rwa [u32N (show f3O k < 4294967296 by omega)] at this
  have s3 := shl_is r1 15 (by omega) (by decide)
  have s4 := shl_is r2 20 (by omega) (by decide)
  have s5 := shl_is p 24 (by omega) (by decide)
  have s6 := shl_is s 20 (by omega) (by decide)
  rw [s1, s2, s3, s4, s5, s6, immW_mk h.im]
  have hparts : [((opc k : Nat) : Int), ((rd * 2 ^ 7 : Nat) : Int), ((f3O k * 2 ^ 12 : Nat) : Int), ((r1 * 2 ^ 15 : Nat) : Int), ((r2 * 2 ^ 20 : Nat) : Int), (mk 0 0 0 0 (hiA k) (hiB k) : Int),
      ((mk 0 (p1 (fmtO k) (uN v)) (p2 (fmtO k) (uN v)) (p3 (fmtO k) (uN v)) (xi4 k v) (xi5 k v) : Nat) : Int), ((if aq then 2 ^ 26 else 0 : Nat) : Int), ((if rl then 2 ^ 25 else 0 : Nat) : Int), ((p * 2 ^ 24 : Nat) : Int), ((s * 2 ^ 20 : Nat) : Int)] =
      ([(opc k, 0, 0, 0, 0, 0), (0, rd, 0, 0, 0, 0), (0, 0, f3O k, 0, 0, 0), (0, 0, 0, r1, 0, 0), (0, 0, 0, 0, r2, 0), (0, 0, 0, 0, hiA k, hiB k), (0, p1 (fmtO k) (uN v), p2 (fmtO k) (uN v), p3 (fmtO k) (uN v), xi4 k v, xi5 k v),
        (0, 0, 0, 0, 0, if aq then 2 else 0), (0, 0, 0, 0, 0, if rl then 1 else 0), (0, 0, 0, 0, p % 2 * 16, p / 2), (0, 0, 0, 0, s, 0)].map mkT).map (fun x : Nat => (x : Int)) := by
    simp only [List.map_cons, List.map_nil, mkT]
    have z1 : opc k = mk (opc k) 0 0 0 0 0 := by rw [mk_def]; omega
    have z2 : rd * 2 ^ 7 = mk 0 rd 0 0 0 0 := by rw [mk_def]; omega
    have z3 : f3O k * 2 ^ 12 = mk 0 0 (f3O k) 0 0 0 := by rw [mk_def]; omega
    have z4 : r1 * 2 ^ 15 = mk 0 0 0 r1 0 0 := by rw [mk_def]; omega
    have z5 : r2 * 2 ^ 20 = mk 0 0 0 0 r2 0 := by rw [mk_def]; omega
    have z6 := zbit2 aq
    have z7 := zbit1 rl
    have z8 : p * 2 ^ 24 = mk 0 0 0 0 (p % 2 * 16) (p / 2) := zshl24 p
    have z9 : s * 2 ^ 20 = mk 0 0 0 0 s 0 := zshl20 s
    rw [← z1, ← z2, ← z3, ← z4, ← z5, ← z6, ← z7, ← z8, ← z9]
  rw [hparts]
  have hq : (if aq then 2 else 0) < 128 ∧ (if rl then 1 else 0) < 128 := by cases aq <;> cases rl <;> decide
  have hokl : ∀ t ∈ ([(opc k, 0, 0, 0, 0, 0), (0, rd, 0, 0, 0, 0), (0, 0, f3O k, 0, 0, 0), (0, 0, 0, r1, 0, 0), (0, 0, 0, 0, r2, 0), (0, 0, 0, 0, hiA k, hiB k), (0, p1 (fmtO k) (uN v), p2 (fmtO k) (uN v), p3 (fmtO k) (uN v), xi4 k v, xi5 k v),
        (0, 0, 0, 0, 0, if aq then 2 else 0), (0, 0, 0, 0, 0, if rl then 1 else 0), (0, 0, 0, 0, p % 2 * 16, p / 2), (0, 0, 0, 0, s, 0)] : List Fd), okT t ∧ t.2.2.2.2.2 < 128 := by
    intro t ht
    simp only [List.mem_cons, List.not_mem_nil, or_false] at ht
    rcases ht with rfl | rfl | rfl | rfl | rfl | rfl | rfl | rfl | rfl | rfl | rfl <;> simp only [okT] <;> omega
  rw [all_is N _ (by
    intro y hy
    obtain ⟨t, ht, rfl⟩ := List.mem_map.1 hy
    obtain ⟨⟨o1, o2, o3, o4, o5⟩, o6⟩ := hokl t ht
    exact mk_lt o1 o2 o3 o4 o5 o6) (by simp; omega) (by simp), bindS_some]
  have h0 : mkT (0, 0, 0, 0, 0, 0) = 0 := by simp only [mkT, mk_def]
  have hor := or_list _ (0, 0, 0, 0, 0, 0) (by simp [okT]) fun t ht => (hokl t ht).1
  rw [h0] at hor
  rw [hor]
  simp only [List.foldl_cons, List.foldl_nil, orT, Nat.or_zero, Nat.zero_or, mkT]
  rw [b1.1, b2.1, b3.1, b4.1, b5.1, ← wordN_eq]

theorem Encode_wrong {N : Nat} (hN : 100 ≤ N) {x : Ins} (hv : I64 x.2.2.2.2.1) (hr : rightB x = false) : F57 N x = some (0, 1) := by
  unfold F57 R57
  rw [RightP_is hN hv, hr, bindS_some]
  rfl
end Go.Proofs.YtkcfkegkhopakaaGreatDoor

/- The document's word is the program's. No condition. -/

namespace Go.Proofs.YtkcfkegkhopakaaGreatDoor
open Go Go.Ev Go.Sh
set_option linter.unusedVariables false
set_option linter.unusedSimpArgs false
set_option maxRecDepth 100000

theorem word_sum (o rd f3 r1 r2 t sh pu x : Nat) (h : o + rd * 128 + f3 * 4096 + r1 * 32768 + r2 * 1048576 + t + sh + pu + x < 4294967296) :
    IntKind.u32.wrap (IntKind.u32.wrap (IntKind.u32.wrap (IntKind.u32.wrap ((o : Int) + IntKind.u32.wrap (IntKind.u32.wrap (rd : Int) * 128)) + IntKind.u32.wrap ((f3 : Int) * 4096)) + IntKind.u32.wrap (IntKind.u32.wrap (r1 : Int) * 32768)) + IntKind.u32.wrap (IntKind.u32.wrap (r2 : Int) * 1048576)) =
      ((o + rd * 128 + f3 * 4096 + r1 * 32768 + r2 * 1048576 : Nat) : Int) := by
  simp only [u32_wrap_eq]
  omega

theorem wadd (a b : Nat) (h : a + b < 4294967296) : IntKind.u32.wrap ((a : Int) + (b : Int)) = ((a + b : Nat) : Int) := by
  rw [u32_wrap_eq]; omega
theorem wmul (a b : Nat) (h : a * b < 4294967296) : IntKind.u32.wrap ((a : Int) * (b : Int)) = ((a * b : Nat) : Int) := by
  rw [← Int.natCast_mul, u32N h]

theorem someN {a b : Nat} (h : a = b) : some ((a : Nat) : Int) = some ((b : Nat) : Int) := by rw [h]

theorem rWord_is {N : Nat} (hN : 100 ≤ N) {x : Ins} {k rd r1 r2 : Nat} {v : Int} {aq rl : Bool} {p s : Nat} (h : Rt x k rd r1 r2 v aq rl p s) :
    F62 N x = some ((wordN k rd r1 r2 v aq rl p s : Nat) : Int) := by
  have ft := fact_is hN h.k1 h.k2
  have tb := tab_is hN h.k1 h.k2
  obtain ⟨b1, b2, b3⟩ := parts1 h
  obtain ⟨b4, b5⟩ := or45 h
  have l0 := ft.oc
  have l1 := h.rd1
  have l2 := ft.f3
  have l3 := h.r11
  have l4 := h.r21
  obtain ⟨l7, l8⟩ := h.ps
  have hx := h.eq
  have hlt : wordN k rd r1 r2 v aq rl p s < 4294967296 := by
    rw [wordN_eq]
    exact mk_lt l0 b1.2 b2.2 b3.2 b4.2 b5.2
  have hput : 0 < fmtO k → F118 N (fmtO k : Int) v = some (putN (fmtO k) (uN v) : Int) := fun h0 => rPut_is hN v _ h0 (fmtO_le k)
  have hpn : putN (fmtO k) (uN v) = p1 (fmtO k) (uN v) * 128 + p2 (fmtO k) (uN v) * 4096 + p3 (fmtO k) (uN v) * 32768 + p4 (fmtO k) (uN v) * 1048576 + p5 (fmtO k) (uN v) * 33554432 := by
    unfold putN; rw [mk_def]; simp only [Nat.zero_add]
  obtain ⟨y1, y2, y3, y4, y5⟩ := p_zero (uN v)
  have hw := @wordN_eq k rd r1 r2 v aq rl p s
  rw [mk_def] at hw
  have k54 : decide (10 ≤ srt (k : Int)) = Nat.ble 54 k := (grp_is (by have := h.k1; omega) h.k2).2
  subst hx
  unfold F62 R62
  simp only [tb.sortR, tb.opcR, tb.f3R, tb.trnR, tb.shfR, tb.fmtR, bindS_some, jp_eq, k54]
  have base := word_sum (opc k) rd (f3O k) r1 r2 0 0 0 0
  by_cases h50 : k < 50
  · have hb : Nat.ble 54 k = false := by
      cases hb : Nat.ble 54 k with
      | false => rfl
      | true => have := Nat.le_of_ble_eq_true hb; omega
    obtain ⟨z1, z2⟩ := h.pz (by omega) (by omega)
    obtain ⟨z3, z4⟩ := h.an (by omega)
    subst z1 z2 z3 z4
    have hA : hiA k = 0 := by unfold hiA; rw [if_neg (by omega)]
    have hB : hiB k = if trn k then 32 else 0 := by
      unfold hiB
      rw [if_neg (show ¬ k = 51 by omega), if_neg (show ¬ 54 ≤ k by omega)]
    have n50 : ¬ ((k : Int) = 50) := by omega
    have n51 : ¬ ((k : Int) = 51) := by omega
    have n53 : ¬ ((k : Int) = 53) := by omega
    rw [hb]
    simp only [br_f, brF n50, brF n51, brF n53]
    rw [hA, hB] at hw
    simp only [Bool.false_eq_true, if_false, Nat.zero_mod, Nat.zero_mul, Nat.zero_div, Nat.add_zero] at hw
    have hs := shf_cases k
    by_cases hsz : 0 < shf k
    · obtain ⟨u0, u1, u2⟩ := imm_shf h.im hsz
      have hf := fmtO_shf hsz
      have hz := h.sz (ft.sh (by omega)).1
      subst hz
      rw [hf, y1, y2, y3] at hw
      unfold xi4 xi5 at hw
      simp only [if_pos hsz] at hw
      have n0 : ¬ (0 < (fmtO k : Int)) := by omega
      have p0 : (0 : Int) < (shf k : Int) := by omega
      simp only [brF n0, brT p0]
      clear base
      have e1 : IntKind.u32.wrap (IntKind.u32.wrap v * 1048576) = ((uN v * 1048576 : Nat) : Int) := by simp only [u32_wrap_eq]; omega
      have e0 := word_sum (opc k) rd (f3O k) r1 0 0 0 0 0 (by omega)
      rw [e0, e1]
      cases ht : trn k with
      | true =>
        rw [ht] at hw
        simp only [if_true] at hw
        simp only [br_t]
        have := wadd (opc k + rd * 128 + f3O k * 4096 + r1 * 32768 + 0 * 1048576) 1073741824 (by omega)
        rw [show ((1073741824 : Nat) : Int) = 1073741824 from rfl] at this
        rw [this, wadd _ _ (by omega)]
        exact someN (by omega)
      | false =>
        rw [ht] at hw
        simp only [Bool.false_eq_true, if_false] at hw
        simp only [br_f]
        rw [wadd _ _ (by omega)]
        exact someN (by omega)
    · have n0 : ¬ (0 < (shf k : Int)) := by omega
      simp only [brF n0]
      unfold xi4 xi5 at hw
      simp only [if_neg hsz] at hw
      rw [base (by omega)]
      by_cases hf : 0 < fmtO k
      · have ht := (ft.fm (by omega)).1
        have p0 : (0 : Int) < (fmtO k : Int) := by omega
        rw [ht] at hw
        simp only [Bool.false_eq_true, if_false] at hw
        simp only [brT p0, hput hf, bindS_some, ht, br_f]
        rw [wadd _ _ (by omega)]
        exact someN (by omega)
      · have n1 : ¬ (0 < (fmtO k : Int)) := by omega
        have hf0 : fmtO k = 0 := by omega
        rw [hf0, y1, y2, y3, y4, y5] at hw
        simp only [brF n1]
        cases ht : trn k with
        | true =>
          rw [ht] at hw
          simp only [if_true] at hw
          simp only [br_t]
          have := wadd (opc k + rd * 128 + f3O k * 4096 + r1 * 32768 + r2 * 1048576) 1073741824 (by omega)
          rw [show ((1073741824 : Nat) : Int) = 1073741824 from rfl] at this
          rw [this]
          exact someN (by omega)
        | false =>
          rw [ht] at hw
          simp only [Bool.false_eq_true, if_false] at hw
          simp only [br_f]
          exact someN (by omega)
  · obtain ⟨g1, g2, g3⟩ := ft.up (by omega)
    have hX : xi4 k v = 0 ∧ xi5 k v = 0 := by
      unfold xi4 xi5
      simp only [if_neg (show ¬ 0 < shf k by omega), g1, y4, y5, and_self]
    rw [hX.1, hX.2, g1, y1, y2, y3] at hw
    have n0 : ¬ (0 < (shf k : Int)) := by omega
    have n1 : ¬ (0 < (fmtO k : Int)) := by omega
    rw [g3]
    simp only [br_f, brF n0, brF n1]
    rw [base (by omega)]
    by_cases h54 : k < 54
    · have hb : Nat.ble 54 k = false := by
        cases hb : Nat.ble 54 k with
        | false => rfl
        | true => have := Nat.le_of_ble_eq_true hb; omega
      rw [hb]
      simp only [br_f]
      obtain ⟨w1, w2, w3, w4⟩ := ft.mid (by omega) h54
      have q1 := h.wz w2
      have q2 := h.fz w3
      have q3 := h.sz w4
      obtain ⟨z3, z4⟩ := h.an h54
      subst q1 q2 q3 z3 z4
      simp only [Bool.false_eq_true, if_false, Nat.add_zero, Nat.zero_add] at hw
      obtain rfl | rfl | rfl | rfl : k = 50 ∨ k = 51 ∨ k = 52 ∨ k = 53 := by omega
      · have a1 : hiA 50 = 0 := rfl
        have a2 : hiB 50 = 0 := rfl
        have a3 : opc 50 = 15 := rfl
        have a4 : f3O 50 = 0 := rfl
        rw [a1, a2, a3, a4] at hw
        rw [a3, a4, brT (by decide)]
        have e1 : IntKind.u32.wrap (IntKind.u32.wrap (p : Int) * 16777216) = ((p * 16777216 : Nat) : Int) := by simp only [u32_wrap_eq]; omega
        have e2 : IntKind.u32.wrap (IntKind.u32.wrap (s : Int) * 1048576) = ((s * 1048576 : Nat) : Int) := by simp only [u32_wrap_eq]; omega
        rw [e1, e2, wadd _ _ (by omega), wadd _ _ (by omega)]
        exact someN (by omega)
      · obtain ⟨rfl, rfl⟩ := h.p3 rfl
        rw [brF (by decide), brT (by decide), hw]
        rfl
      · obtain ⟨rfl, rfl⟩ := h.pz (by decide) (by decide)
        rw [brF (by decide), brF (by decide), brF (by decide), hw]
        rfl
      · obtain ⟨rfl, rfl⟩ := h.pz (by decide) (by decide)
        rw [brF (by decide), brF (by decide), brT (by decide), hw]
        rfl
    · have hb : Nat.ble 54 k = true := Nat.ble_eq.mpr (by omega)
      obtain ⟨rfl, rfl⟩ := h.pz (by omega) (by omega)
      have hA : hiA k = 0 := by unfold hiA; rw [if_neg (by omega)]
      have hB : hiB k = fiv k * 4 := by
        unfold hiB
        rw [g3]
        simp only [Bool.false_eq_true, if_false]
        rw [if_neg (by omega), if_pos (by omega)]
      have hf := ft.fv
      rw [hb, br_t, tb.fivR (by omega), bindS_some]
      rw [hA, hB] at hw
      have e1 : IntKind.u32.wrap ((fiv k : Int) * 134217728) = ((fiv k * 134217728 : Nat) : Int) := by simp only [u32_wrap_eq]; omega
      rw [e1, wadd _ _ (by omega)]
      have e2 := fun a : Nat => wadd a 67108864
      have e3 := fun a : Nat => wadd a 33554432
      simp only [show ((67108864 : Nat) : Int) = 67108864 from rfl] at e2
      simp only [show ((33554432 : Nat) : Int) = 33554432 from rfl] at e3
      cases aq <;> cases rl <;> simp only [Bool.false_eq_true, if_false, if_true] at hw <;> simp only [br_t, br_f]
      · exact someN (by omega)
      · rw [e3 _ (by omega)]; exact someN (by omega)
      · rw [e2 _ (by omega)]; exact someN (by omega)
      · rw [e2 _ (by omega), e3 _ (by omega)]; exact someN (by omega)
end Go.Proofs.YtkcfkegkhopakaaGreatDoor

/- Decode of Encode. No condition. -/

namespace Go.Proofs.YtkcfkegkhopakaaGreatDoor
open Go Go.Ev Go.Sh
set_option linter.unusedVariables false
set_option linter.unusedSimpArgs false
set_option maxRecDepth 100000

/-- what is read of a word, by its six fields -/
structure Fl (n b c d e g : Nat) : Prop where
  i1 : immI n = sxN (e + 32 * g) 12
  i2 : immS n = sxN (b + 32 * g) 12
  i3 : immB n = sxN (g / 64 * 4096 + b % 2 * 2048 + g % 64 * 32 + b / 2 * 2) 13
  i4 : immU n = sxN ((c + d * 8 + e * 256 + g * 8192) * 4096) 32
  i5 : immJ n = sxN (g / 64 * 1048576 + (c + d * 8) * 4096 + e % 2 * 2048 + (e / 2 + g % 64 * 16) * 2) 21
  x6 : fld n 20 6 = e + g % 2 * 32
  b26 : bt n 26 = g / 2 % 2
  b25 : bt n 25 = g % 2
  x24 : fld n 24 4 = e / 16 + g % 8 * 2
  x20 : fld n 20 4 = e % 16
  d20 : n / 2 ^ 20 = e + 32 * g
  d26 : n / 2 ^ 26 = g / 2
  d27 : n / 2 ^ 27 = g / 4

theorem fl_is {n b c d e g : Nat} (hn : n < 4294967296) (hb : fld n 7 5 = b) (hc : fld n 12 3 = c) (hd : fld n 15 5 = d) (he : fld n 20 5 = e) (hg : n / 2 ^ 25 = g) : Fl n b c d e g := by
  rw [fld_def] at hb hc hd he
  refine ⟨?_, ?_, ?_, ?_, ?_, ?_, ?_, ?_, ?_, ?_, ?_, ?_, ?_⟩
  · unfold immI; rw [fld_def]; congr 1; omega
  · unfold immS; rw [fld_def, fld_def]; congr 1; omega
  · unfold immB; rw [fld_def, fld_def, bt_def, bt_def]; congr 1; omega
  · have h : fld n 12 20 = c + d * 8 + e * 256 + g * 8192 := by rw [fld_def]; omega
    unfold immU; rw [h]
  · have h1 : fld n 12 8 = c + d * 8 := by rw [fld_def]; omega
    have h2 : fld n 21 10 = e / 2 + g % 64 * 16 := by rw [fld_def]; omega
    have h3 : bt n 31 = g / 64 := by rw [bt_def]; omega
    have h4 : bt n 20 = e % 2 := by rw [bt_def]; omega
    unfold immJ; rw [h1, h2, h3, h4]
  · rw [fld_def]; omega
  · rw [bt_def]; omega
  · rw [bt_def]; omega
  · rw [fld_def]; omega
  · rw [fld_def]; omega
  · omega
  · omega
  · omega

/-- an immediate's parts by arithmetic -/
theorem p_arith (u : Nat) : (p4 1 u = u % 32 ∧ p5 1 u = u / 32 % 128) ∧ (p1 2 u = u % 32 ∧ p5 2 u = u / 32 % 128) ∧ (p1 3 u = u / 2048 % 2 + u / 2 % 16 * 2 ∧ p5 3 u = u / 32 % 64 + u / 4096 % 2 * 64) ∧
    (p2 4 u = u / 4096 % 8 ∧ p3 4 u = u / 32768 % 32 ∧ p4 4 u = u / 1048576 % 32 ∧ p5 4 u = u / 33554432 % 128) ∧
    (p2 5 u = u / 4096 % 8 ∧ p3 5 u = u / 32768 % 32 ∧ p4 5 u = u / 2048 % 2 + u / 2 % 16 * 2 ∧ p5 5 u = u / 32 % 64 + u / 1048576 % 2 * 64) := by
  simp only [p1, p2, p3, p4, p5, fld_def, bt_def, Nat.reduceEqDiff, if_true, if_false, or_self, or_false, false_or, or_true, true_or, Nat.reducePow, Nat.div_one]
  exact ⟨⟨trivial, trivial⟩, ⟨trivial, trivial⟩, ⟨trivial, trivial⟩, ⟨trivial, trivial, trivial, trivial⟩, trivial, trivial, trivial, trivial⟩

theorem split13 (u : Nat) : u % 8192 = u % 2 + 2 * (u / 2 % 16) + 32 * (u / 32 % 64) + 2048 * (u / 2048 % 2) + 4096 * (u / 4096 % 2) := by omega
theorem split21 (u : Nat) : u % 2097152 = u % 2 + 2 * (u / 2 % 16) + 32 * (u / 32 % 64) + 2048 * (u / 2048 % 2) + 4096 * (u / 4096 % 8) + 32768 * (u / 32768 % 32) + 1048576 * (u / 1048576 % 2) := by omega
theorem split32 (u : Nat) : u % 4294967296 = u % 4096 + 4096 * (u / 4096 % 8) + 32768 * (u / 32768 % 32) + 1048576 * (u / 1048576 % 32) + 33554432 * (u / 33554432 % 128) := by omega
theorem join7 (a b : Nat) (ha : a < 64) (hb : b < 2) : (a + b * 64) / 64 = b ∧ (a + b * 64) % 64 = a := by omega
theorem join5 (a b : Nat) (ha : a < 2) : (a + b * 2) % 2 = a ∧ (a + b * 2) / 2 = b := by omega

theorem sx_mod {v : Int} {u : Nat} (hu : (u : Int) = v % 18446744073709551616) {k : Nat} (hk : k = 12 ∨ k = 13 ∨ k = 21 ∨ k = 32) (h : -((2 ^ (k - 1) : Nat) : Int) ≤ v ∧ v < ((2 ^ (k - 1) : Nat) : Int)) : sxN (u % 2 ^ k) k = v := by
  obtain rfl | rfl | rfl | rfl := hk
  all_goals
    unfold sxN
    simp only [Nat.reducePow, Nat.reduceSub, Nat.mod_mod] at h ⊢
    split <;> omega

theorem sx_back {v : Int} {f : Nat} (h : mayB f v = true) : ∀ u : Nat, (u : Int) = v % 18446744073709551616 →
    (f = 1 → sxN (u % 32 + 32 * (u / 32 % 128)) 12 = v) ∧ (f = 2 → sxN (u % 32 + 32 * (u / 32 % 128)) 12 = v) ∧
    (f = 3 → sxN ((u / 32 % 64 + u / 4096 % 2 * 64) / 64 * 4096 + (u / 2048 % 2 + u / 2 % 16 * 2) % 2 * 2048 + (u / 32 % 64 + u / 4096 % 2 * 64) % 64 * 32 + (u / 2048 % 2 + u / 2 % 16 * 2) / 2 * 2) 13 = v) ∧
    (f = 4 → sxN ((u / 4096 % 8 + u / 32768 % 32 * 8 + u / 1048576 % 32 * 256 + u / 33554432 % 128 * 8192) * 4096) 32 = v) ∧
    (f = 5 → sxN ((u / 32 % 64 + u / 1048576 % 2 * 64) / 64 * 1048576 + (u / 4096 % 8 + u / 32768 % 32 * 8) * 4096 + (u / 2048 % 2 + u / 2 % 16 * 2) % 2 * 2048 + ((u / 2048 % 2 + u / 2 % 16 * 2) / 2 + (u / 32 % 64 + u / 1048576 % 2 * 64) % 64 * 16) * 2) 21 = v) := by
  intro u hu
  have j1 := join7 (u / 32 % 64) (u / 4096 % 2) (Nat.mod_lt _ (by decide)) (Nat.mod_lt _ (by decide))
  have j2 := join7 (u / 32 % 64) (u / 1048576 % 2) (Nat.mod_lt _ (by decide)) (Nat.mod_lt _ (by decide))
  have j3 := join5 (u / 2048 % 2) (u / 2 % 16) (Nat.mod_lt _ (by decide))
  rw [j1.1, j1.2, j2.1, j2.2, j3.1, j3.2]
  refine ⟨?_, ?_, ?_, ?_, ?_⟩
  · rintro rfl
    simp only [mayB, Bool.and_eq_true, decide_eq_true_eq] at h
    rw [show u % 32 + 32 * (u / 32 % 128) = u % 2 ^ 12 by omega]
    exact sx_mod hu (by simp) (by simp; omega)
  · rintro rfl
    simp only [mayB, Bool.and_eq_true, decide_eq_true_eq] at h
    rw [show u % 32 + 32 * (u / 32 % 128) = u % 2 ^ 12 by omega]
    exact sx_mod hu (by simp) (by simp; omega)
  · rintro rfl
    simp only [mayB, Bool.and_eq_true, decide_eq_true_eq] at h
    have := split13 u
    have h2 : u % 2 = 0 := by omega
    rw [show u / 4096 % 2 * 4096 + u / 2048 % 2 * 2048 + u / 32 % 64 * 32 + u / 2 % 16 * 2 = u % 2 ^ 13 by omega]
    exact sx_mod hu (by simp) (by simp; omega)
  · rintro rfl
    simp only [mayB, Bool.and_eq_true, decide_eq_true_eq] at h
    have := split32 u
    have h2 : u % 4096 = 0 := by omega
    rw [show (u / 4096 % 8 + u / 32768 % 32 * 8 + u / 1048576 % 32 * 256 + u / 33554432 % 128 * 8192) * 4096 = u % 2 ^ 32 by omega]
    exact sx_mod hu (by simp) (by simp; omega)
  · rintro rfl
    simp only [mayB, Bool.and_eq_true, decide_eq_true_eq] at h
    have := split21 u
    have h2 : u % 2 = 0 := by omega
    rw [show u / 1048576 % 2 * 1048576 + (u / 4096 % 8 + u / 32768 % 32 * 8) * 4096 + u / 2048 % 2 * 2048 + (u / 2 % 16 + u / 32 % 64 * 16) * 2 = u % 2 ^ 21 by omega]
    exact sx_mod hu (by simp) (by simp; omega)

/-! ### Decode of Encode -/
theorem sortF : ((List.range 75).all fun i => (!(fmtO (i + 1) == 4 || fmtO (i + 1) == 5) || (decide (srt ((i + 1 : Nat) : Int) = 1) || i + 1 == 3)) && ((!(Nat.ble 50 (i + 1) && Nat.blt (i + 1) 52) || decide (srt ((i + 1 : Nat) : Int) = 8)) &&
    ((!(Nat.ble 52 (i + 1) && Nat.blt (i + 1) 54) || decide (srt ((i + 1 : Nat) : Int) = 9)) && (Nat.blt (i + 1) 54 || Nat.blt 55 (i + 1) || fiv (i + 1) == 2 && !seO ((i + 1 : Nat) : Int))))) = true := by kernel_rfl

theorem trn_sh : ((List.range 75).all fun i => (!(shf (i + 1) == 5) || (srt ((i + 1 : Nat) : Int) == 6))) = true := by kernel_rfl

theorem isP_word {x : Ins} {k rd r1 r2 : Nat} {v : Int} {aq rl : Bool} {p s : Nat} (h : Rt x k rd r1 r2 v aq rl p s) : isP (lk (wordN k rd r1 r2 v aq rl p s)) k = true := by
  have ft := fact_is (N := 100) (Nat.le_refl _) h.k1 h.k2
  obtain ⟨b1, b2, b3⟩ := parts1 h
  obtain ⟨b4, b5⟩ := or45 h
  have sf := List.all_eq_true.1 sortF (k - 1) (List.mem_range.2 (by have := h.k1; have := h.k2; omega))
  rw [show k - 1 + 1 = k by have := h.k1; omega] at sf
  simp only [Bool.and_eq_true] at sf
  obtain ⟨sf1, sf2, sf3, sf4⟩ := sf
  obtain ⟨m0, m1, m2, m3, m4, m5, m6⟩ := mk_fields ft.oc b1.2 b2.2 b3.2 b4.2 b5.2
  rw [← wordN_eq] at m0 m1 m2 m3 m4 m5 m6
  have fl := fl_is m0 m2 m3 m4 m5 m6
  generalize hw : wordN k rd r1 r2 v aq rl p s = n at m0 m1 m2 m3 m4 m5 m6 fl ⊢
  obtain ⟨y1, y2, y3, y4, y5⟩ := p_zero (uN v)
  obtain ⟨l7, l8⟩ := h.ps
  unfold isP lk
  simp only [m1, beq_self_eq_true, Bool.true_and]
  cases c1 : (decide (srt (k : Int) = 1) || k == 3) with
  | true => rfl
  | false =>
    rw [cond_false]
    have hf45 : ¬ (fmtO k = 4 ∨ fmtO k = 5) := by
      intro hf
      have : (fmtO k == 4 || fmtO k == 5) = true := by rw [Bool.or_eq_true, beq_iff_eq, beq_iff_eq]; exact hf
      rw [this, c1] at sf1; simp at sf1
    have hp2 : p2 (fmtO k) (uN v) = 0 := by unfold p2; rw [if_neg hf45]
    rw [hp2, Nat.add_zero] at m3
    cases c2 : decide (srt (k : Int) = 9) with
    | true =>
      rw [cond_true]
      have h9 := of_decide_eq_true c2
      have hk : k = 52 ∨ k = 53 := by
        unfold srt at h9
        have := h.k1; have := h.k2
        by_cases g : k = 52 ∨ k = 53
        · exact g
        · exfalso
          have hc : ((List.range 75).all fun i => !decide (srt ((i + 1 : Nat) : Int) = 9) || (i + 1 == 52 || i + 1 == 53)) = true := by kernel_rfl
          have := List.all_eq_true.1 hc (k - 1) (List.mem_range.2 (by omega))
          rw [show k - 1 + 1 = k by omega, c2] at this
          simp at this
          omega
      obtain ⟨w1, w2, w3, w4⟩ := ft.mid (by omega) (by omega)
      have q1 := h.wz w2
      have q2 := h.fz w3
      have q3 := h.sz w4
      obtain ⟨z3, z4⟩ := h.an (by omega)
      obtain ⟨z1, z2⟩ := h.pz (by omega) (by omega)
      subst q1 q2 q3 z3 z4 z1 z2
      have hX : ∀ j, j = 52 ∨ j = 53 → xi4 j v = 0 ∧ xi5 j v = 0 := by
        rintro j (rfl | rfl) <;> exact ⟨rfl, rfl⟩
      rw [wordN_eq, mk_def] at hw
      rcases hk with rfl | rfl
      · obtain ⟨x1, x2⟩ := hX 52 (.inl rfl)
        rw [x1, x2, show fmtO 52 = 0 from rfl, y1, y2, y3, show hiA 52 = 0 from rfl, show hiB 52 = 0 from rfl, show opc 52 = 115 from rfl, show f3O 52 = 0 from rfl] at hw
        simp at hw
        rw [← hw]; rfl
      · obtain ⟨x1, x2⟩ := hX 53 (.inr rfl)
        rw [x1, x2, show fmtO 53 = 0 from rfl, y1, y2, y3, show hiA 53 = 1 from rfl, show hiB 53 = 0 from rfl, show opc 53 = 115 from rfl, show f3O 53 = 0 from rfl] at hw
        simp at hw
        rw [← hw]; rfl
    | false =>
      rw [cond_false]
      cases c3 : decide (srt (k : Int) = 8) with
      | true =>
        rw [cond_true]
        have hk : k = 50 ∨ k = 51 := by
          have := h.k1; have := h.k2
          have hc : ((List.range 75).all fun i => !decide (srt ((i + 1 : Nat) : Int) = 8) || (i + 1 == 50 || i + 1 == 51)) = true := by kernel_rfl
          have := List.all_eq_true.1 hc (k - 1) (List.mem_range.2 (by omega))
          rw [show k - 1 + 1 = k by omega, c3] at this
          simpa using this
        obtain ⟨w1, w2, w3, w4⟩ := ft.mid (by omega) (by omega)
        have q3 := h.sz w4
        obtain ⟨z3, z4⟩ := h.an (by omega)
        subst q3 z3 z4
        rw [m3, w1]
        simp only [beq_self_eq_true, Bool.true_and]
        have hd := fl.d20
        rcases hk with rfl | rfl
        · rw [show xi4 50 v = 0 from rfl, show xi5 50 v = 0 from rfl, show hiA 50 = 0 from rfl, show hiB 50 = 0 from rfl] at hd
          simp only [Bool.false_eq_true, if_false] at hd
          have hne : n / 2 ^ 20 ≠ 2099 := by omega
          rw [beq_eq_false_iff_ne.2 hne]; rfl
        · obtain ⟨rfl, rfl⟩ := h.p3 rfl
          rw [show xi4 51 v = 0 from rfl, show xi5 51 v = 0 from rfl, show hiA 51 = 0 from rfl, show hiB 51 = 64 from rfl] at hd
          simp only [Bool.false_eq_true, if_false] at hd
          have he : n / 2 ^ 20 = 2099 := by omega
          rw [he]; rfl
      | false =>
        rw [cond_false, m3]
        simp only [beq_self_eq_true, Bool.true_and]
        have hk50 : k < 50 ∨ 54 ≤ k := by
          rcases Nat.lt_or_ge k 50 with g | g
          · exact .inl g
          · rcases Nat.lt_or_ge k 54 with g2 | g2
            · exfalso
              rcases Nat.lt_or_ge k 52 with g3 | g3
              · rw [Nat.ble_eq.mpr g, Nat.blt_eq.mpr g3, c3] at sf2; simp at sf2
              · rw [Nat.ble_eq.mpr g3, Nat.blt_eq.mpr g2, c2] at sf3; simp at sf3
            · exact .inr g2
        rcases hk50 with hk | hk
        · obtain ⟨z1, z2⟩ := h.pz (by omega) (by omega)
          obtain ⟨z3, z4⟩ := h.an (by omega)
          subst z1 z2 z3 z4
          have hA : hiA k = 0 := by unfold hiA; rw [if_neg (by omega)]
          have hB : hiB k = if trn k then 32 else 0 := by
            unfold hiB
            rw [if_neg (show ¬ k = 51 by omega), if_neg (show ¬ 54 ≤ k by omega)]
          have h26 := fl.d26
          rw [hB] at m6 h26
          simp only [Bool.false_eq_true, if_false, Nat.zero_div, Nat.add_zero] at m6 h26
          have s10 : decide (srt (k : Int) = 10) = false := by
            have h := ft.sr
            rw [Nat.blt_eq.mpr (show k < 54 by omega)] at h
            have := of_decide_eq_true h
            exact decide_eq_false (by omega)
          have s11 : decide (10 < srt (k : Int)) = false := by
            have h := ft.sr
            rw [Nat.blt_eq.mpr (show k < 54 by omega)] at h
            have := of_decide_eq_true h
            exact decide_eq_false (by omega)
          rw [s10, s11, m6, h26]
          simp only [cond_false]
          have hs := shf_cases k
          cases c5 : decide (srt (k : Int) = 7) with
          | true =>
            rw [Bool.true_or, cond_true]
            have hfs : fmtO k = 0 ∧ shf k = 0 := by
              have := h.k1; have := h.k2
              have hc : ((List.range 75).all fun i => !decide (srt ((i + 1 : Nat) : Int) = 7) || (fmtO (i + 1) == 0 && shf (i + 1) == 0)) = true := by kernel_rfl
              have := List.all_eq_true.1 hc (k - 1) (List.mem_range.2 (by omega))
              rw [show k - 1 + 1 = k by omega, c5] at this
              simpa using this
            have hx : xi5 k v = 0 := by unfold xi5; rw [if_neg (by omega), hfs.1]; exact y5
            rw [hx]
            cases trn k <;> rfl
          | false =>
            rw [Bool.false_or]
            rcases hs with hs | hs | hs
            · rw [hs]; rfl
            · obtain ⟨u0, u1, u2⟩ := imm_shf h.im (by omega)
              have hx : xi5 k v = 0 := by unfold xi5; rw [if_pos (by omega)]; have := u2 hs; omega
              rw [hs, hx]
              cases trn k <;> rfl
            · obtain ⟨u0, u1, u2⟩ := imm_shf h.im (by omega)
              have hx : xi5 k v = 0 ∨ xi5 k v = 1 := by unfold xi5; rw [if_pos (by omega)]; omega
              rw [hs]
              rcases hx with hx | hx <;> rw [hx] <;> cases trn k <;> rfl
        · obtain ⟨g1, g2, g3⟩ := ft.up (by omega)
          obtain ⟨z1, z2⟩ := h.pz (by omega) (by omega)
          subst z1 z2
          have hX : xi4 k v = 0 ∧ xi5 k v = 0 := by
            unfold xi4 xi5
            simp only [if_neg (show ¬ 0 < shf k by omega), g1, y4, y5, and_self]
          have hA : hiA k = 0 := by unfold hiA; rw [if_neg (by omega)]
          have hB : hiB k = fiv k * 4 := by
            unfold hiB
            rw [g3]
            simp only [Bool.false_eq_true, if_false]
            rw [if_neg (by omega), if_pos (by omega)]
          have h27 := fl.d27
          rw [hX.2, hB] at h27
          have hfv := ft.fv
          have h27' : n / 2 ^ 27 = fiv k := by
            rw [h27]
            cases aq <;> cases rl <;> simp <;> omega
          have s7 : decide (srt (k : Int) = 7) = false := by
            have h := ft.sr
            have hb : Nat.blt k 54 = false := by
              cases hb : Nat.blt k 54 with
              | false => rfl
              | true => rw [Nat.blt_eq] at hb; omega
            rw [hb] at h
            have := of_decide_eq_false h
            exact decide_eq_false (by omega)
          rw [s7, g2, h27']
          simp only [Bool.false_or]
          rw [show ((0 : Nat) == 5) = false from rfl, show ((0 : Nat) == 6) = false from rfl, cond_false, cond_false]
          cases c10 : decide (srt (k : Int) = 10) with
          | true =>
            rw [cond_true]
            have hk55 : k = 54 ∨ k = 55 := by
              have := h.k1; have := h.k2
              have hc : ((List.range 75).all fun i => !decide (srt ((i + 1 : Nat) : Int) = 10) || (i + 1 == 54 || i + 1 == 55)) = true := by kernel_rfl
              have := List.all_eq_true.1 hc (k - 1) (List.mem_range.2 (by omega))
              rw [show k - 1 + 1 = k by omega, c10] at this
              simpa using this
            have hz : r2 = 0 := h.sz (by rcases hk55 with rfl | rfl <;> decide)
            rw [m5, hX.1, hA, hz]
            rcases hk55 with rfl | rfl <;> rfl
          | false =>
            rw [cond_false]
            cases c11 : decide (10 < srt (k : Int)) with
            | true => rw [cond_true, beq_self_eq_true]
            | false => rfl
end Go.Proofs.YtkcfkegkhopakaaGreatDoor

/- Decode of Encode is the instruction. No condition. -/

namespace Go.Proofs.YtkcfkegkhopakaaGreatDoor
open Go Go.Ev Go.Sh
set_option linter.unusedVariables false
set_option linter.unusedSimpArgs false
set_option maxRecDepth 100000

theorem seFacts : ((List.range 75).all fun i => !seO ((i + 1 : Nat) : Int) || (shf (i + 1) == 0 && (fmtO (i + 1) == 0 || fmtO (i + 1) == 2 || fmtO (i + 1) == 3) && !(i + 1 == 50) && !(i + 1 == 51) && !(i + 1 == 53))) = true := by kernel_rfl

theorem se_facts {k : Nat} (h1 : 1 ≤ k) (h2 : k ≤ 75) (h : seO k = true) : shf k = 0 ∧ (fmtO k = 0 ∨ fmtO k = 2 ∨ fmtO k = 3) ∧ k ≠ 50 ∧ k ≠ 51 ∧ k ≠ 53 := by
  have := List.all_eq_true.1 seFacts (k - 1) (List.mem_range.2 (by omega))
  rw [show k - 1 + 1 = k by omega, h] at this
  simp at this
  omega

theorem imm_back {x : Ins} {k rd r1 r2 : Nat} {v : Int} {aq rl : Bool} {p s : Nat} (h : Rt x k rd r1 r2 v aq rl p s) {n : Nat}
    (fl : Fl n (rd + p1 (fmtO k) (uN v)) (f3O k + p2 (fmtO k) (uN v)) (r1 + p3 (fmtO k) (uN v)) (r2 + xi4 k v + hiA k + p % 2 * 16 + s) (xi5 k v + hiB k + (if aq then 2 else 0) + (if rl then 1 else 0) + p / 2))
    (hf20 : fld n 20 5 = r2 + xi4 k v + hiA k + p % 2 * 16 + s) : immN n k = v := by
  have ft := fact_is (N := 100) (Nat.le_refl _) h.k1 h.k2
  have hs := shf_cases k
  unfold immN
  by_cases h5 : shf k = 5
  · obtain ⟨u0, u1, u2⟩ := imm_shf h.im (by omega)
    have hk := (ft.sh (by omega)).2
    obtain ⟨z1, z2⟩ := h.pz (by omega) (by omega)
    have hz := h.sz (ft.sh (by omega)).1
    have hA : hiA k = 0 := by unfold hiA; rw [if_neg (by omega)]
    have := u2 h5
    rw [if_pos h5, hf20, hz, z1, z2, hA]
    unfold xi4
    rw [if_pos (by omega)]
    omega
  · rw [if_neg h5]
    by_cases h6 : shf k = 6
    · obtain ⟨u0, u1, u2⟩ := imm_shf h.im (by omega)
      have hk := (ft.sh (by omega)).2
      obtain ⟨z1, z2⟩ := h.pz (by omega) (by omega)
      obtain ⟨z3, z4⟩ := h.an (by omega)
      have hz := h.sz (ft.sh (by omega)).1
      have hA : hiA k = 0 := by unfold hiA; rw [if_neg (by omega)]
      have hB : hiB k = 0 ∨ hiB k = 32 := by
        unfold hiB
        rw [if_neg (show ¬ k = 51 by omega), if_neg (show ¬ 54 ≤ k by omega)]
        cases trn k <;> simp
      rw [if_pos h6, fl.x6, hz, z1, z2, hA, z3, z4]
      unfold xi4 xi5
      rw [if_pos (by omega), if_pos (by omega)]
      simp only [Bool.false_eq_true, if_false]
      omega
    · rw [if_neg h6]
      have h0 : shf k = 0 := by omega
      have him := h.im
      unfold immOK at him
      rw [if_neg h6, if_neg h5] at him
      by_cases hf : 0 < fmtO k
      · rw [if_pos hf]
        rw [if_neg (by omega)] at him
        obtain ⟨ht, hk⟩ := ft.fm (by omega)
        obtain ⟨z1, z2⟩ := h.pz (by omega) (by omega)
        obtain ⟨z3, z4⟩ := h.an (by omega)
        have hA : hiA k = 0 := by unfold hiA; rw [if_neg (by omega)]
        have hB : hiB k = 0 := by
          unfold hiB
          rw [ht, if_neg (show ¬ k = 51 by omega), if_neg (show ¬ 54 ≤ k by omega)]
          rfl
        have hx4 : xi4 k v = p4 (fmtO k) (uN v) := by unfold xi4; rw [if_neg (by omega)]
        have hx5 : xi5 k v = p5 (fmtO k) (uN v) := by unfold xi5; rw [if_neg (by omega)]
        rw [hA, hB, z1, z2, z3, z4, hx4, hx5] at fl
        simp only [Bool.false_eq_true, if_false, Nat.add_zero, Nat.zero_mod, Nat.zero_mul, Nat.zero_div] at fl
        obtain ⟨sb1, sb2, sb3, sb4, sb5⟩ := sx_back him (uN v) (by rw [← u64_wrap_eq, uN_wrap])
        obtain ⟨⟨a11, a12⟩, ⟨a21, a22⟩, ⟨a31, a32⟩, ⟨a41, a42, a43, a44⟩, a51, a52, a53, a54⟩ := p_arith (uN v)
        obtain ⟨g1, g2, g3, g4, g5⟩ := getI_is n
        have hle := fmtO_le k
        have hc : fmtO k = 1 ∨ fmtO k = 2 ∨ fmtO k = 3 ∨ fmtO k = 4 ∨ fmtO k = 5 := by omega
        rcases hc with hc | hc | hc | hc | hc
        · have hz := h.sz (ft.f1 hc)
          rw [hc, g1, fl.i1, hc, hz, a11, a12, Nat.zero_add]
          exact sb1 hc
        · have hz := h.wz (ft.f23 (.inl hc))
          rw [hc, g2, fl.i2, hc, hz, a21, a22, Nat.zero_add]
          exact sb2 hc
        · have hz := h.wz (ft.f23 (.inr hc))
          rw [hc, g3, fl.i3, hc, hz, a31, a32, Nat.zero_add]
          exact sb3 hc
        · obtain ⟨q1, q2, q3⟩ := ft.f45 (.inl hc)
          have hz := h.fz q2
          have hz2 := h.sz q3
          rw [hc, g4, fl.i4, hc, hz, hz2, q1, a41, a42, a43, a44, Nat.zero_add, Nat.zero_add, Nat.zero_add]
          exact sb4 hc
        · obtain ⟨q1, q2, q3⟩ := ft.f45 (.inr hc)
          have hz := h.fz q2
          have hz2 := h.sz q3
          rw [hc, g5, fl.i5, hc, hz, hz2, q1, a51, a52, a53, a54, Nat.zero_add, Nat.zero_add, Nat.zero_add]
          exact sb5 hc
      · rw [if_neg hf]
        rw [if_pos (by omega)] at him
        exact (of_decide_eq_true him).symm

theorem ins_word {x : Ins} {k rd r1 r2 : Nat} {v : Int} {aq rl : Bool} {p s : Nat} (h : Rt x k rd r1 r2 v aq rl p s) :
    wordN k rd r1 r2 v aq rl p s < 4294967296 ∧ dOp (wordN k rd r1 r2 v aq rl p s) = k ∧ insN (wordN k rd r1 r2 v aq rl p s) k = x := by
  have ft := fact_is (N := 100) (Nat.le_refl _) h.k1 h.k2
  obtain ⟨b1, b2, b3⟩ := parts1 h
  obtain ⟨b4, b5⟩ := or45 h
  obtain ⟨m0, m1, m2, m3, m4, m5, m6⟩ := mk_fields ft.oc b1.2 b2.2 b3.2 b4.2 b5.2
  rw [← wordN_eq] at m0 m1 m2 m3 m4 m5 m6
  have hp := isP_word h
  rw [isP_iff m0 h.k1 h.k2] at hp
  refine ⟨m0, beq_iff_eq.1 hp, ?_⟩
  have fl := fl_is m0 m2 m3 m4 m5 m6
  have him := imm_back h fl m5
  generalize wordN k rd r1 r2 v aq rl p s = n at m0 m1 m2 m3 m4 m5 m6 fl him ⊢
  unfold insN
  rw [him, h.eq]
  have hle := fmtO_le k
  have hrd : (if wrO k then ((fld n 7 5 : Nat) : Int) else 0) = (rd : Int) := by
    cases hw : wrO k with
    | false => rw [h.wz hw]; rfl
    | true =>
      have : p1 (fmtO k) (uN v) = 0 := by
        unfold p1
        rw [if_neg (fun hf => by have := ft.f23 (.inl hf); rw [hw] at this; simp at this), if_neg (fun hf => by have := ft.f23 (.inr hf); rw [hw] at this; simp at this)]
      rw [m2, this]; rfl
  have hr1 : (if fiO k then ((fld n 15 5 : Nat) : Int) else 0) = (r1 : Int) := by
    cases hw : fiO k with
    | false => rw [h.fz hw]; rfl
    | true =>
      have : p3 (fmtO k) (uN v) = 0 := by
        unfold p3
        rw [if_neg (fun hf => by have := (ft.f45 hf).2.1; rw [hw] at this; simp at this)]
      rw [m4, this]; rfl
  have hr2 : (if seO k then ((fld n 20 5 : Nat) : Int) else 0) = (r2 : Int) := by
    cases hw : seO k with
    | false => rw [h.sz hw]; rfl
    | true =>
      obtain ⟨g1, g2, g3, g4, g5⟩ := se_facts h.k1 h.k2 hw
      obtain ⟨z1, z2⟩ := h.pz g3 g4
      have hA : hiA k = 0 := by unfold hiA; rw [if_neg (by omega)]
      have hx : xi4 k v = 0 := by
        unfold xi4 p4
        rw [if_neg (by omega), if_neg (by omega), if_neg (by omega), if_neg (by omega)]
      rw [m5, hx, hA, z1, z2]
      simp
  rw [hrd, hr1, hr2]
  have sr := ft.sr
  have h10 : decide (10 ≤ srt (k : Int)) = Nat.ble 54 k := (grp_is (by have := h.k1; omega) h.k2).2
  have haq : (decide (10 ≤ srt (k : Int)) && bt n 26 == 1) = aq ∧ (decide (10 ≤ srt (k : Int)) && bt n 25 == 1) = rl := by
    rw [h10]
    by_cases h54 : k < 54
    · have hb : Nat.ble 54 k = false := by
        cases hb : Nat.ble 54 k with
        | false => rfl
        | true => have := Nat.le_of_ble_eq_true hb; omega
      obtain ⟨z3, z4⟩ := h.an h54
      rw [hb, z3, z4]
      exact ⟨rfl, rfl⟩
    · have hb : Nat.ble 54 k = true := Nat.ble_eq.mpr (by omega)
      obtain ⟨g1, g2, g3⟩ := ft.up (by omega)
      obtain ⟨z1, z2⟩ := h.pz (by omega) (by omega)
      obtain ⟨y1, y2, y3, y4, y5⟩ := p_zero (uN v)
      have hX : xi5 k v = 0 := by
        unfold xi5
        rw [if_neg (by omega), g1, y5]
      have hB : hiB k = fiv k * 4 := by
        unfold hiB
        rw [g3]
        simp only [Bool.false_eq_true, if_false]
        rw [if_neg (by omega), if_pos (by omega)]
      rw [hb, fl.b26, fl.b25, hX, hB, z1]
      simp only [Bool.true_and]
      cases aq <;> cases rl <;> simp <;> omega
  rw [haq.1, haq.2]
  have hps : (if k = 51 then (3 : Int) else if k = 50 then ((fld n 24 4 : Nat) : Int) else 0) = (p : Int) ∧ (if k = 51 then (3 : Int) else if k = 50 then ((fld n 20 4 : Nat) : Int) else 0) = (s : Int) := by
    by_cases h51 : k = 51
    · obtain ⟨z1, z2⟩ := h.p3 h51
      rw [if_pos h51, if_pos h51, z1, z2]; exact ⟨rfl, rfl⟩
    · rw [if_neg h51, if_neg h51]
      by_cases h50 : k = 50
      · subst h50
        obtain ⟨w1, w2, w3, w4⟩ := ft.mid (by omega) (by omega)
        have q3 := h.sz w4
        obtain ⟨z3, z4⟩ := h.an (by omega)
        obtain ⟨l7, l8⟩ := h.ps
        rw [if_pos rfl, if_pos rfl, fl.x24, fl.x20, show xi4 50 v = 0 from rfl, show xi5 50 v = 0 from rfl, show hiA 50 = 0 from rfl, show hiB 50 = 0 from rfl, q3, z3, z4]
        simp only [Bool.false_eq_true, if_false]
        omega
      · obtain ⟨z1, z2⟩ := h.pz h50 h51
        rw [if_neg h50, if_neg h50, z1, z2]; exact ⟨rfl, rfl⟩
  rw [hps.1, hps.2]
end Go.Proofs.YtkcfkegkhopakaaGreatDoor

/- Encode of Decode is the word, but for a fence's ignored bits. No condition. -/

namespace Go.Proofs.YtkcfkegkhopakaaGreatDoor
open Go Go.Ev Go.Sh
set_option linter.unusedVariables false
set_option linter.unusedSimpArgs false
set_option maxRecDepth 100000

def clsB (k : Nat) : Bool :=
  (!(fmtO k == 1) || (wrO k && fiO k && (!(decide (srt k = 1) || k == 3) && !decide (srt k = 9) && !decide (srt k = 8) && !decide (srt k = 7)))) &&
  ((!(fmtO k == 2 || fmtO k == 3) || (fiO k && seO k && (!(decide (srt k = 1) || k == 3) && !decide (srt k = 9) && !decide (srt k = 8) && !decide (srt k = 7)))) &&
  ((!(fmtO k == 4 || fmtO k == 5) || wrO k) &&
  ((shf k == 0 || (wrO k && fiO k && (!(decide (srt k = 1) || k == 3) && !decide (srt k = 9) && !decide (srt k = 8) && !decide (srt k = 7)))) &&
  ((!(Nat.blt k 50 && (fmtO k == 0 && shf k == 0)) || (wrO k && fiO k && seO k && (!(decide (srt k = 1) || k == 3) && !decide (srt k = 9) && !decide (srt k = 8) && decide (srt k = 7)))) &&
  ((!(k == 50 || k == 51) || (!(decide (srt k = 1) || k == 3) && !decide (srt k = 9) && decide (srt k = 8))) && ((!(k == 52 || k == 53) || (!(decide (srt k = 1) || k == 3) && decide (srt k = 9))) &&
  (Nat.blt k 54 || (wrO k && fiO k && (!(decide (srt k = 1) || k == 3) && !decide (srt k = 9) && !decide (srt k = 8) && !decide (srt k = 7)) && (bif decide (srt k = 10) then !seO k && fiv k == 2 else seO k && decide (10 < srt k))))))))))
theorem cls_all : ((List.range 75).all fun i => clsB (i + 1)) = true := by kernel_rfl
theorem cls_is {k : Nat} (h1 : 1 ≤ k) (h2 : k ≤ 75) : clsB k = true := by
  have := List.all_eq_true.1 cls_all (k - 1) (List.mem_range.2 (by omega))
  rwa [show k - 1 + 1 = k by omega] at this

theorem uN_sx (X k : Nat) (hX : X < 2 ^ k) (hk : k = 12 ∨ k = 13 ∨ k = 21 ∨ k = 32) : uN (sxN X k) % 2 ^ k = X ∧ -((2 ^ (k - 1) : Nat) : Int) ≤ sxN X k ∧ sxN X k < ((2 ^ (k - 1) : Nat) : Int) ∧ sxN X k % ((2 ^ k : Nat) : Int) = X := by
  obtain rfl | rfl | rfl | rfl := hk
  all_goals
    unfold sxN uN
    simp only [Nat.reducePow, Nat.reduceSub] at hX ⊢
    split <;> omega

theorem uN_nat (a : Nat) (h : a < 4294967296) : uN (a : Int) = a := by unfold uN; omega

structure Src (n k : Nat) (rd r1 r2 : Nat) (v : Int) (aq rl : Bool) (p s : Nat) : Prop where
  rd : rd = if wrO k then fld n 7 5 else 0
  r1 : r1 = if fiO k then fld n 15 5 else 0
  r2 : r2 = if seO k then fld n 20 5 else 0
  v : v = immN n k
  aq : aq = (decide (10 ≤ srt k) && bt n 26 == 1)
  rl : rl = (decide (10 ≤ srt k) && bt n 25 == 1)
  p : p = if k = 51 then 3 else if k = 50 then fld n 24 4 else 0
  s : s = if k = 51 then 3 else if k = 50 then fld n 20 4 else 0

theorem imm_ok {n k : Nat} (hn : n < 4294967296) : immOK k (immN n k) = true := by
  have hs := shf_cases k
  have l5 := fld_lt n 20 5
  have l6 := fld_lt n 20 6
  unfold immOK immN
  by_cases h6 : shf k = 6
  · rw [if_pos h6, if_neg (by omega), if_pos h6]
    simp only [Bool.and_eq_true, decide_eq_true_eq]; omega
  · rw [if_neg h6]
    by_cases h5 : shf k = 5
    · rw [if_pos h5, if_pos h5]
      simp only [Bool.and_eq_true, decide_eq_true_eq]; omega
    · rw [if_neg h5, if_neg h5, if_neg h6]
      by_cases hf : fmtO k = 0
      · rw [if_pos hf, if_neg (by omega)]; rfl
      · rw [if_neg hf, if_pos (by omega)]
        have fl := fl_is hn rfl rfl rfl rfl rfl
        obtain ⟨g1, g2, g3, g4, g5⟩ := getI_is n
        have la := fld_lt n 7 5
        have lb := fld_lt n 12 3
        have lc := fld_lt n 15 5
        have hle := fmtO_le k
        have hc : fmtO k = 1 ∨ fmtO k = 2 ∨ fmtO k = 3 ∨ fmtO k = 4 ∨ fmtO k = 5 := by omega
        generalize fmtO k = f at hc
        rcases hc with rfl | rfl | rfl | rfl | rfl
        · rw [g1, fl.i1]
          obtain ⟨_, q1, q2, q3⟩ := uN_sx (fld n 20 5 + 32 * (n / 2 ^ 25)) 12 (by omega) (by simp)
          simp only [mayB, Bool.and_eq_true, decide_eq_true_eq]; omega
        · rw [g2, fl.i2]
          obtain ⟨_, q1, q2, q3⟩ := uN_sx (fld n 7 5 + 32 * (n / 2 ^ 25)) 12 (by omega) (by simp)
          simp only [mayB, Bool.and_eq_true, decide_eq_true_eq]; omega
        · rw [g3, fl.i3]
          obtain ⟨_, q1, q2, q3⟩ := uN_sx (n / 2 ^ 25 / 64 * 4096 + fld n 7 5 % 2 * 2048 + n / 2 ^ 25 % 64 * 32 + fld n 7 5 / 2 * 2) 13 (by omega) (by simp)
          simp only [mayB, Bool.and_eq_true, decide_eq_true_eq]; omega
        · rw [g4, fl.i4]
          obtain ⟨_, q1, q2, q3⟩ := uN_sx ((fld n 12 3 + fld n 15 5 * 8 + fld n 20 5 * 256 + n / 2 ^ 25 * 8192) * 4096) 32 (by omega) (by simp)
          simp only [mayB, Bool.and_eq_true, decide_eq_true_eq]; omega
        · rw [g5, fl.i5]
          obtain ⟨_, q1, q2, q3⟩ := uN_sx (n / 2 ^ 25 / 64 * 1048576 + (fld n 12 3 + fld n 15 5 * 8) * 4096 + fld n 20 5 % 2 * 2048 + (fld n 20 5 / 2 + n / 2 ^ 25 % 64 * 16) * 2) 21 (by omega) (by simp)
          simp only [mayB, Bool.and_eq_true, decide_eq_true_eq]; omega

theorem rt_of {n k : Nat} (hn : n < 4294967296) (h1 : 1 ≤ k) (h2 : k ≤ 75) {rd r1 r2 : Nat} {v : Int} {aq rl : Bool} {p s : Nat} (h : Src n k rd r1 r2 v aq rl p s) : Rt (insN n k) k rd r1 r2 v aq rl p s := by
  have la := fld_lt n 7 5
  have lc := fld_lt n 15 5
  have l5 := fld_lt n 20 5
  have l24 := fld_lt n 24 4
  have l20 := fld_lt n 20 4
  have h10 : decide (10 ≤ srt (k : Int)) = Nat.ble 54 k := (grp_is (by omega) h2).2
  obtain ⟨e1, e2, e3, e4, e5, e6, e7, e8⟩ := h
  refine ⟨?_, h1, h2, ?_, ?_, ?_, ?_, ?_, ?_, ?_, ?_, ?_, ?_, ?_⟩
  · subst e1 e2 e3 e4 e5 e6 e7 e8
    unfold insN
    refine Prod.ext rfl (Prod.ext ?_ (Prod.ext ?_ (Prod.ext ?_ (Prod.ext rfl (Prod.ext rfl (Prod.ext rfl (Prod.ext ?_ ?_)))))))
    · show (if wrO k then ((fld n 7 5 : Nat) : Int) else 0) = _; split <;> rfl
    · show (if fiO k then ((fld n 15 5 : Nat) : Int) else 0) = _; split <;> rfl
    · show (if seO k then ((fld n 20 5 : Nat) : Int) else 0) = _; split <;> rfl
    · show (if k = 51 then (3 : Int) else if k = 50 then ((fld n 24 4 : Nat) : Int) else 0) = _; split <;> (try split) <;> rfl
    · show (if k = 51 then (3 : Int) else if k = 50 then ((fld n 20 4 : Nat) : Int) else 0) = _; split <;> (try split) <;> rfl
  · subst e1; split <;> omega
  · subst e2; split <;> omega
  · subst e3; split <;> omega
  · intro hz; subst e1; rw [hz]; rfl
  · intro hz; subst e2; rw [hz]; rfl
  · intro hz; subst e3; rw [hz]; rfl
  · intro hz
    have hb : Nat.ble 54 k = false := by
      cases hb : Nat.ble 54 k with
      | false => rfl
      | true => have := Nat.le_of_ble_eq_true hb; omega
    rw [h10, hb] at e5 e6
    exact ⟨e5, e6⟩
  · subst e4; exact imm_ok hn
  · subst e7 e8; constructor <;> (split <;> (try split) <;> omega)
  · intro q1 q2; subst e7 e8; rw [if_neg q2, if_neg q2, if_neg q1, if_neg q1]; exact ⟨rfl, rfl⟩
  · intro q1; subst e7 e8; rw [if_pos q1, if_pos q1]; exact ⟨rfl, rfl⟩

/-- a right instruction is right by the tests -/
theorem rt_right {x : Ins} {k rd r1 r2 : Nat} {v : Int} {aq rl : Bool} {p s : Nat} (h : Rt x k rd r1 r2 v aq rl p s) : rightB x = true := by
  have sr := (fact_is (N := 100) (Nat.le_refl _) h.k1 h.k2).sr
  have hx := h.eq
  have k1 := h.k1
  have k2 := h.k2
  have l1 := h.rd1
  have l3 := h.r11
  have l4 := h.r21
  obtain ⟨l7, l8⟩ := h.ps
  subst hx
  have dz : ∀ r : Nat, decide ((r : Int) = 0) = decide (r = 0) := fun r => by rw [Bool.eq_iff_iff]; simp only [decide_eq_true_eq]; omega
  have hrg : ∀ r : Nat, r < 32 → rgB (r : Int) = true := fun r hr => by unfold rgB; rw [Bool.and_eq_true]; simp only [decide_eq_true_eq]; omega
  have h175 : (decide (1 ≤ (k : Int)) && decide ((k : Int) ≤ 75)) = true := by rw [Bool.and_eq_true]; simp only [decide_eq_true_eq]; omega
  have hps : psB k p s = true := by
    unfold psB
    by_cases h50 : k = 50
    · rw [if_pos (by omega)]; simp only [Bool.and_eq_true, decide_eq_true_eq]; omega
    · rw [if_neg (by omega)]
      by_cases h51 : k = 51
      · obtain ⟨rfl, rfl⟩ := h.p3 h51
        rw [if_pos (by omega)]; rfl
      · obtain ⟨rfl, rfl⟩ := h.pz h50 h51
        rw [if_neg (by omega)]; rfl
  unfold rightB
  simp only [h175, hrg rd l1, hrg r1 l3, hrg r2 l4, Int.toNat_natCast, h.im, hps, dz, sr]
  have a1 : (wrO k || decide (rd = 0)) = true := by
    cases hw : wrO k with
    | true => rfl
    | false => rw [h.wz hw]; rfl
  have a2 : (fiO k || decide (r1 = 0)) = true := by
    cases hw : fiO k with
    | true => rfl
    | false => rw [h.fz hw]; rfl
  have a3 : (seO k || decide (r2 = 0)) = true := by
    cases hw : seO k with
    | true => rfl
    | false => rw [h.sz hw]; rfl
  have a4 : (!(Nat.blt k 54 && (aq || rl))) = true := by
    cases hb : Nat.blt k 54 with
    | false => rfl
    | true =>
      rw [Nat.blt_eq] at hb
      obtain ⟨rfl, rfl⟩ := h.an hb
      rfl
  rw [a1, a2, a3, a4]
  rfl
end Go.Proofs.YtkcfkegkhopakaaGreatDoor

/- The word of a word's instruction. No condition. -/

namespace Go.Proofs.YtkcfkegkhopakaaGreatDoor
open Go Go.Ev Go.Sh
set_option linter.unusedVariables false
set_option linter.unusedSimpArgs false
set_option maxRecDepth 100000

theorem and_fields {n a b c d e g a' b' c' d' e' g' : Nat} (hn : n < 4294967296) (h1 : n % 128 = a) (h2 : fld n 7 5 = b) (h3 : fld n 12 3 = c) (h4 : fld n 15 5 = d) (h5 : fld n 20 5 = e) (h6 : n / 2 ^ 25 = g)
    (q1 : a' < 128) (q2 : b' < 32) (q3 : c' < 8) (q4 : d' < 32) (q5 : e' < 32) (q6 : g' < 128) :
    n &&& mk a' b' c' d' e' g' = mk (a &&& a') (b &&& b') (c &&& c') (d &&& d') (e &&& e') (g &&& g') := by
  obtain ⟨m0, m1, m2, m3, m4, m5, m6⟩ := mk_fields q1 q2 q3 q4 q5 q6
  have z7 : ∀ w : Nat, fld w 0 7 = w % 128 := fun w => by rw [fld_def]; simp
  have z25 : ∀ w : Nat, w < 4294967296 → fld w 25 7 = w / 2 ^ 25 := fun w hw => (f7_is hw).1
  have hlt : n &&& mk a' b' c' d' e' g' < 4294967296 := lt32_and hn
  rw [mk_of hlt, ← z7, ← z25 _ hlt, fld_and, fld_and, fld_and, fld_and, fld_and, fld_and, z7, z7, z25 _ hn, z25 _ m0, h1, h2, h3, h4, h5, h6, m1, m2, m3, m4, m5, m6]

theorem bl {a b : Nat} : Nat.blt a b = true ↔ a < b := by rw [Nat.blt_eq]

/-- what the test says -/
theorem isP_says {n k : Nat} (h : isP (lk n) k = true) :
    n % 128 = opc k ∧ ((decide (srt k = 1) || k == 3) = false → (decide (srt k = 9) = true → (n = 115 ∧ k = 52) ∨ (n = 1048691 ∧ k = 53)) ∧ (decide (srt k = 9) = false → (decide (srt k = 8) = true → fld n 12 3 = 0 ∧ (n / 2 ^ 20 == 2099) = (k == 51)) ∧
    (decide (srt k = 8) = false → fld n 12 3 = f3O k ∧ ((decide (srt k = 7) = true ∨ shf k = 5) → n / 2 ^ 25 = if trn k then 32 else 0) ∧ (decide (srt k = 7) = false → shf k = 6 → n / 2 ^ 26 = if trn k then 16 else 0) ∧
      (decide (srt k = 7) = false → shf k = 0 → (decide (srt k = 10) = true → n / 2 ^ 27 = 2 ∧ fld n 20 5 = 0) ∧ (decide (srt k = 10) = false → decide (10 < srt k) = true → n / 2 ^ 27 = fiv k))))) := by
  unfold isP lk at h
  simp only [Bool.and_eq_true, beq_iff_eq] at h
  refine ⟨h.1, fun c1 => ?_⟩
  have h := h.2
  rw [c1, cond_false] at h
  refine ⟨fun c2 => ?_, fun c2 => ?_⟩
  · rw [c2, cond_true] at h
    simpa using h
  · rw [c2, cond_false] at h
    refine ⟨fun c3 => ?_, fun c3 => ?_⟩
    · rw [c3, cond_true, Bool.and_eq_true, beq_iff_eq, beq_iff_eq] at h
      exact h
    · rw [c3, cond_false, Bool.and_eq_true, beq_iff_eq] at h
      refine ⟨h.1, fun c4 => ?_, fun c4 c5 => ?_, fun c4 c5 => ?_⟩
      · have h := h.2
        have : (decide (srt (k : Int) = 7) || shf k == 5) = true := by rw [Bool.or_eq_true, beq_iff_eq]; exact c4
        rw [this, cond_true] at h
        cases ht : trn k <;> rw [ht] at h <;> simpa using h
      · have h := h.2
        rw [c4, c5] at h
        cases ht : trn k <;> rw [ht] at h <;> simpa using h
      · have h := h.2
        rw [c4, c5] at h
        simp only [Bool.false_or, show ((0 : Nat) == 5) = false from rfl, show ((0 : Nat) == 6) = false from rfl, cond_false] at h
        refine ⟨fun c6 => ?_, fun c6 c7 => ?_⟩
        · rw [c6, cond_true] at h
          simpa using h
        · rw [c6, c7, cond_false, cond_true] at h
          simpa using h

theorem nott {b : Bool} (h : (!b) = true) : b = false := by cases b <;> simp at h ⊢

def fenceMask (k n : Nat) : Nat := if k = 50 then n &&& 267415679 else if k = 51 then n &&& 4293947519 else n

theorem euc2 {a b A B : Nat} (h : a + 2 * A = b + 2 * B) (ha : a < 2) (hb : b < 2) : a = b ∧ A = B := by omega
theorem euc16 {a b A B : Nat} (h : a + 16 * A = b + 16 * B) (ha : a < 16) (hb : b < 16) : a = b ∧ A = B := by omega
theorem euc64 {a b A B : Nat} (h : a + 64 * A = b + 64 * B) (ha : a < 64) (hb : b < 64) : a = b ∧ A = B := by omega
theorem euc8 {a b A B : Nat} (h : a + 8 * A = b + 8 * B) (ha : a < 8) (hb : b < 8) : a = b ∧ A = B := by omega
theorem euc32 {a b A B : Nat} (h : a + 32 * A = b + 32 * B) (ha : a < 32) (hb : b < 32) : a = b ∧ A = B := by omega

theorem digits13 {u g b : Nat} (hu : u % 8192 = g / 64 * 4096 + b % 2 * 2048 + g % 64 * 32 + b / 2 * 2) (hg : g < 128) (hb : b < 32) : u / 2048 % 2 + u / 2 % 16 * 2 = b ∧ u / 32 % 64 + u / 4096 % 2 * 64 = g := by
  have sp := split13 u
  rw [hu] at sp
  have x0 : u % 2 < 2 := Nat.mod_lt _ (by decide)
  have x1 : u / 2 % 16 < 16 := Nat.mod_lt _ (by decide)
  have x2 : u / 32 % 64 < 64 := Nat.mod_lt _ (by decide)
  have x3 : u / 2048 % 2 < 2 := Nat.mod_lt _ (by decide)
  have x4 : u / 4096 % 2 < 2 := Nat.mod_lt _ (by decide)
  generalize u % 2 = a0 at *
  generalize u / 2 % 16 = a1 at *
  generalize u / 32 % 64 = a2 at *
  generalize u / 2048 % 2 = a3 at *
  generalize u / 4096 % 2 = a4 at *
  clear hu
  have y0 : b % 2 < 2 := Nat.mod_lt _ (by decide)
  have y1 : g % 64 < 64 := Nat.mod_lt _ (by decide)
  have y2 : b / 2 < 16 := by omega
  obtain ⟨e0, e1⟩ := euc2 (a := a0) (b := 0) (A := a1 + 16 * (a2 + 64 * (a3 + 2 * a4))) (B := b / 2 + 16 * (g % 64 + 64 * (b % 2 + 2 * (g / 64)))) (by omega) x0 (by decide)
  obtain ⟨e2, e3⟩ := euc16 e1 x1 y2
  obtain ⟨e4, e5⟩ := euc64 e3 x2 y1
  obtain ⟨e6, e7⟩ := euc2 e5 x3 y0
  rw [e2, e4, e6, e7]
  omega

theorem digits21 {u g c d e : Nat} (hu : u % 2097152 = g / 64 * 1048576 + (c + d * 8) * 4096 + e % 2 * 2048 + (e / 2 + g % 64 * 16) * 2) (hg : g < 128) (hc : c < 8) (hd : d < 32) (he : e < 32) :
    u / 4096 % 8 = c ∧ u / 32768 % 32 = d ∧ u / 2048 % 2 + u / 2 % 16 * 2 = e ∧ u / 32 % 64 + u / 1048576 % 2 * 64 = g := by
  have sp := split21 u
  rw [hu] at sp
  have x0 : u % 2 < 2 := Nat.mod_lt _ (by decide)
  have x1 : u / 2 % 16 < 16 := Nat.mod_lt _ (by decide)
  have x2 : u / 32 % 64 < 64 := Nat.mod_lt _ (by decide)
  have x3 : u / 2048 % 2 < 2 := Nat.mod_lt _ (by decide)
  have x4 : u / 4096 % 8 < 8 := Nat.mod_lt _ (by decide)
  have x5 : u / 32768 % 32 < 32 := Nat.mod_lt _ (by decide)
  have x6 : u / 1048576 % 2 < 2 := Nat.mod_lt _ (by decide)
  generalize u % 2 = a0 at *
  generalize u / 2 % 16 = a1 at *
  generalize u / 32 % 64 = a2 at *
  generalize u / 2048 % 2 = a3 at *
  generalize u / 4096 % 8 = a4 at *
  generalize u / 32768 % 32 = a5 at *
  generalize u / 1048576 % 2 = a6 at *
  clear hu
  have y0 : e % 2 < 2 := Nat.mod_lt _ (by decide)
  have y1 : g % 64 < 64 := Nat.mod_lt _ (by decide)
  have y2 : e / 2 < 16 := by omega
  obtain ⟨e0, e1⟩ := euc2 (a := a0) (b := 0) (A := a1 + 16 * (a2 + 64 * (a3 + 2 * (a4 + 8 * (a5 + 32 * a6))))) (B := e / 2 + 16 * (g % 64 + 64 * (e % 2 + 2 * (c + 8 * (d + 32 * (g / 64)))))) (by omega) x0 (by decide)
  obtain ⟨e2, e3⟩ := euc16 e1 x1 y2
  obtain ⟨e4, e5⟩ := euc64 e3 x2 y1
  obtain ⟨e6, e7⟩ := euc2 e5 x3 y0
  obtain ⟨e8, e9⟩ := euc8 e7 x4 hc
  obtain ⟨e10, e11⟩ := euc32 e9 x5 hd
  rw [e2, e4, e6, e8, e10, e11]
  omega

theorem digits32 {u g c d e : Nat} (hu : u % 4294967296 = (c + d * 8 + e * 256 + g * 8192) * 4096) (hg : g < 128) (hc : c < 8) (hd : d < 32) (he : e < 32) :
    u / 4096 % 8 = c ∧ u / 32768 % 32 = d ∧ u / 1048576 % 32 = e ∧ u / 33554432 % 128 = g := by
  have sp := split32 u
  rw [hu] at sp
  have x0 : u % 4096 < 4096 := Nat.mod_lt _ (by decide)
  have x4 : u / 4096 % 8 < 8 := Nat.mod_lt _ (by decide)
  have x5 : u / 32768 % 32 < 32 := Nat.mod_lt _ (by decide)
  have x6 : u / 1048576 % 32 < 32 := Nat.mod_lt _ (by decide)
  have x7 : u / 33554432 % 128 < 128 := Nat.mod_lt _ (by decide)
  generalize u % 4096 = a0 at *
  generalize u / 4096 % 8 = a4 at *
  generalize u / 32768 % 32 = a5 at *
  generalize u / 1048576 % 32 = a6 at *
  generalize u / 33554432 % 128 = a7 at *
  clear hu
  omega

theorem word_ins {n k : Nat} (hn : n < 4294967296) (hk : dOp n = k) (h1 : 1 ≤ k) {rd r1 r2 : Nat} {v : Int} {aq rl : Bool} {p s : Nat} (h : Src n k rd r1 r2 v aq rl p s) : wordN k rd r1 r2 v aq rl p s = fenceMask k n := by
  have h2 : k ≤ 75 := hk ▸ dOp_le n
  have ft := fact_is (N := 100) (Nat.le_refl _) h1 h2
  have hp : isP (lk n) k = true := by rw [isP_iff hn h1 h2, hk, beq_self_eq_true]
  obtain ⟨s0, s1⟩ := isP_says hp
  have hcl := cls_is h1 h2
  unfold clsB at hcl
  simp only [Bool.and_eq_true] at hcl
  obtain ⟨k1, k2, k3, k4, k5, k6, k7, k8⟩ := hcl
  have h10 : decide (10 ≤ srt (k : Int)) = Nat.ble 54 k := (grp_is (by omega) h2).2
  have rt := rt_of hn h1 h2 h
  obtain ⟨e1, e2, e3, e4, e5, e6, e7, e8⟩ := h
  have hmk := mk_of hn
  have lb := fld_lt n 7 5
  have lc := fld_lt n 12 3
  have ld := fld_lt n 15 5
  have le := fld_lt n 20 5
  have fl := fl_is hn rfl rfl rfl rfl rfl
  have hb54 : k < 54 → Nat.ble 54 k = false := fun hlt => by
    cases hb : Nat.ble 54 k with
    | false => rfl
    | true => have := Nat.le_of_ble_eq_true hb; omega
  obtain ⟨gi1, gi2, gi3, gi4, gi5⟩ := getI_is n
  obtain ⟨⟨a11, a12⟩, ⟨a21, a22⟩, ⟨a31, a32⟩, ⟨a41, a42, a43, a44⟩, a51, a52, a53, a54⟩ := p_arith (uN v)
  obtain ⟨y1, y2, y3, y4, y5⟩ := p_zero (uN v)
  have hg : n / 2 ^ 25 < 128 := by omega
  rw [wordN_eq]
  by_cases h50 : k < 50
  · have hm : fenceMask k n = n := by unfold fenceMask; rw [if_neg (by omega), if_neg (by omega)]
    have hA : hiA k = 0 := by unfold hiA; rw [if_neg (by omega)]
    have hB : hiB k = if trn k then 32 else 0 := by
      unfold hiB
      rw [if_neg (show ¬ k = 51 by omega), if_neg (show ¬ 54 ≤ k by omega)]
    rw [if_neg (by omega), if_neg (by omega)] at e7 e8
    rw [h10, hb54 (by omega)] at e5 e6
    have e5 : aq = false := e5
    have e6 : rl = false := e6
    rw [hm, hA, e5, e6, e7, e8, ← s0]
    simp only [Bool.false_eq_true, if_false, Nat.add_zero, Nat.zero_mod, Nat.zero_mul, Nat.zero_div]
    refine Eq.trans ?_ hmk.symm
    have hle := fmtO_le k
    by_cases hf : fmtO k = 0
    · by_cases hs : shf k = 0
      · -- a pair
        have hc : (!(Nat.blt k 50 && (fmtO k == 0 && shf k == 0))) = false := by rw [bl.2 h50, hf, hs]; rfl
        rw [hc, Bool.false_or] at k5
        simp only [Bool.and_eq_true] at k5
        obtain ⟨⟨⟨w1, w2⟩, w3⟩, ⟨⟨w4, w5⟩, w6⟩, w7⟩ := k5
        obtain ⟨-, s2⟩ := s1 (nott w4)
        obtain ⟨-, s3⟩ := s2 (nott w5)
        obtain ⟨t1, t2, -, -⟩ := s3 (nott w6)
        have t2 := t2 (.inl w7)
        rw [w1, if_pos rfl] at e1
        rw [w2, if_pos rfl] at e2
        rw [w3, if_pos rfl] at e3
        have hx : xi4 k v = 0 ∧ xi5 k v = 0 := by
          unfold xi4 xi5
          rw [if_neg (by omega), if_neg (by omega), hf]
          exact ⟨y4, y5⟩
        rw [hx.1, hx.2, hB, hf, y1, y2, y3, e1, e2, e3, t1, ← t2, Nat.zero_add]
        rfl
      · -- a shift by an immediate
        have hc : (shf k == 0) = false := beq_eq_false_iff_ne.2 hs
        rw [hc, Bool.false_or] at k4
        simp only [Bool.and_eq_true] at k4
        obtain ⟨⟨w1, w2⟩, ⟨⟨w4, w5⟩, w6⟩, w7⟩ := k4
        obtain ⟨-, s2⟩ := s1 (nott w4)
        obtain ⟨-, s3⟩ := s2 (nott w5)
        obtain ⟨t1, t2, t3, -⟩ := s3 (nott w6)
        rw [w1, if_pos rfl] at e1
        rw [w2, if_pos rfl] at e2
        rw [(ft.sh hs).1] at e3
        have e3 : r2 = 0 := e3
        have hx4 : xi4 k v = uN v % 32 := by unfold xi4; rw [if_pos (by omega)]
        have hx5 : xi5 k v = uN v / 32 := by unfold xi5; rw [if_pos (by omega)]
        rw [hx4, hx5, hB, hf, y1, y2, y3, e1, e2, e3, t1, e4]
        have hs56 := shf_cases k
        by_cases hs5 : shf k = 5
        · have t2 := t2 (.inr hs5)
          have hu : uN (immN n k) = fld n 20 5 := by
            unfold immN
            rw [if_pos hs5]
            exact uN_nat _ (by omega)
          have q1 : fld n 20 5 % 32 = fld n 20 5 := by omega
          have q2 : fld n 20 5 / 32 = 0 := by omega
          rw [hu, ← t2, q1, q2, Nat.zero_add, Nat.zero_add]
          rfl
        · have hs6 : shf k = 6 := by omega
          have t3 := t3 (nott w7) hs6
          have l6 := fld_lt n 20 6
          have hu : uN (immN n k) = fld n 20 6 := by
            unfold immN
            rw [if_neg hs5, if_pos hs6]
            exact uN_nat _ (by omega)
          rw [hu, fl.x6]
          have q1 : (fld n 20 5 + n / 2 ^ 25 % 2 * 32) % 32 = fld n 20 5 := by omega
          have q2 : (fld n 20 5 + n / 2 ^ 25 % 2 * 32) / 32 = n / 2 ^ 25 % 2 := by omega
          have q3 : n / 2 ^ 25 % 2 + (if trn k then 32 else 0) = n / 2 ^ 25 := by
            cases ht : trn k <;> rw [ht] at t3 <;> simp at t3 ⊢ <;> omega
          rw [q1, q2, q3, Nat.zero_add]
          rfl
    · have hs : shf k = 0 := by
        have := shf_cases k
        rcases Nat.eq_zero_or_pos (shf k) with g | g
        · exact g
        · exact absurd (fmtO_shf g) hf
      have ht := (ft.fm hf).1
      have hx4 : xi4 k v = p4 (fmtO k) (uN v) := by unfold xi4; rw [if_neg (by omega)]
      have hx5 : xi5 k v = p5 (fmtO k) (uN v) := by unfold xi5; rw [if_neg (by omega)]
      have hv : v = getI (fmtO k) n := by rw [e4]; unfold immN; rw [if_neg (by omega), if_neg (by omega), if_pos (by omega)]
      rw [hx4, hx5, hB, ht]
      simp only [Bool.false_eq_true, if_false, Nat.add_zero]
      have hc : fmtO k = 1 ∨ fmtO k = 2 ∨ fmtO k = 3 ∨ fmtO k = 4 ∨ fmtO k = 5 := by omega
      rcases hc with hc | hc | hc | hc | hc
      · rw [hc] at k1
        simp only [beq_self_eq_true, Bool.not_true, Bool.false_or, Bool.and_eq_true] at k1
        obtain ⟨⟨w1, w2⟩, ⟨⟨w4, w5⟩, w6⟩, w7⟩ := k1
        obtain ⟨-, s2⟩ := s1 (nott w4)
        obtain ⟨-, s3⟩ := s2 (nott w5)
        obtain ⟨t1, -, -, -⟩ := s3 (nott w6)
        rw [w1, if_pos rfl] at e1
        rw [w2, if_pos rfl] at e2
        rw [ft.f1 hc] at e3
        have e3 : r2 = 0 := e3
        obtain ⟨q0, -⟩ := uN_sx (fld n 20 5 + 32 * (n / 2 ^ 25)) 12 (by omega) (by simp)
        rw [hc, gi1, fl.i1] at hv
        rw [← hv] at q0
        have r4 : uN v % 32 = fld n 20 5 := by omega
        have r5 : uN v / 32 % 128 = n / 2 ^ 25 := by omega
        rw [hc, a11, a12, r4, r5, e1, e2, e3, t1, Nat.zero_add, show p1 1 (uN v) = 0 from rfl, show p2 1 (uN v) = 0 from rfl, show p3 1 (uN v) = 0 from rfl]
        rfl
      · rw [hc] at k2
        simp only [beq_self_eq_true, Bool.true_or, Bool.not_true, Bool.false_or, Bool.and_eq_true] at k2
        obtain ⟨⟨w1, w2⟩, ⟨⟨w4, w5⟩, w6⟩, w7⟩ := k2
        obtain ⟨-, s2⟩ := s1 (nott w4)
        obtain ⟨-, s3⟩ := s2 (nott w5)
        obtain ⟨t1, -, -, -⟩ := s3 (nott w6)
        rw [ft.f23 (.inl hc)] at e1
        have e1 : rd = 0 := e1
        rw [w1, if_pos rfl] at e2
        rw [w2, if_pos rfl] at e3
        obtain ⟨q0, -⟩ := uN_sx (fld n 7 5 + 32 * (n / 2 ^ 25)) 12 (by omega) (by simp)
        rw [hc, gi2, fl.i2] at hv
        rw [← hv] at q0
        have r4 : uN v % 32 = fld n 7 5 := by omega
        have r5 : uN v / 32 % 128 = n / 2 ^ 25 := by omega
        rw [hc, a21, a22, r4, r5, e1, e2, e3, t1, Nat.zero_add, show p2 2 (uN v) = 0 from rfl, show p3 2 (uN v) = 0 from rfl, show p4 2 (uN v) = 0 from rfl]
        rfl
      · rw [hc] at k2
        simp only [beq_self_eq_true, Bool.or_true, Bool.not_true, Bool.false_or, Bool.and_eq_true] at k2
        obtain ⟨⟨w1, w2⟩, ⟨⟨w4, w5⟩, w6⟩, w7⟩ := k2
        obtain ⟨-, s2⟩ := s1 (nott w4)
        obtain ⟨-, s3⟩ := s2 (nott w5)
        obtain ⟨t1, -, -, -⟩ := s3 (nott w6)
        rw [ft.f23 (.inr hc)] at e1
        have e1 : rd = 0 := e1
        rw [w1, if_pos rfl] at e2
        rw [w2, if_pos rfl] at e3
        obtain ⟨q0, -⟩ := uN_sx (n / 2 ^ 25 / 64 * 4096 + fld n 7 5 % 2 * 2048 + n / 2 ^ 25 % 64 * 32 + fld n 7 5 / 2 * 2) 13 (by omega) (by simp)
        rw [hc, gi3, fl.i3] at hv
        rw [← hv] at q0
        obtain ⟨r4, r5⟩ := digits13 q0 hg lb
        rw [hc, a31, a32, r4, r5, e1, e2, e3, t1, Nat.zero_add, show p2 3 (uN v) = 0 from rfl, show p3 3 (uN v) = 0 from rfl, show p4 3 (uN v) = 0 from rfl]
        rfl
      · rw [hc] at k3
        have w1 : wrO k = true := by simpa using k3
        obtain ⟨q1, q2, q3⟩ := ft.f45 (.inl hc)
        rw [w1, if_pos rfl] at e1
        rw [q2] at e2
        rw [q3] at e3
        have e2 : r1 = 0 := e2
        have e3 : r2 = 0 := e3
        obtain ⟨q0, -⟩ := uN_sx ((fld n 12 3 + fld n 15 5 * 8 + fld n 20 5 * 256 + n / 2 ^ 25 * 8192) * 4096) 32 (by omega) (by simp)
        rw [hc, gi4, fl.i4] at hv
        rw [← hv] at q0
        obtain ⟨z1, z2, z3, z4⟩ := digits32 q0 hg lc ld le
        rw [hc, a41, a42, a43, a44, z1, z2, z3, z4, e1, e2, e3, q1, Nat.zero_add, Nat.zero_add, Nat.zero_add, show p1 4 (uN v) = 0 from rfl]
        rfl
      · rw [hc] at k3
        have w1 : wrO k = true := by simpa using k3
        obtain ⟨q1, q2, q3⟩ := ft.f45 (.inr hc)
        rw [w1, if_pos rfl] at e1
        rw [q2] at e2
        rw [q3] at e3
        have e2 : r1 = 0 := e2
        have e3 : r2 = 0 := e3
        obtain ⟨q0, -⟩ := uN_sx (n / 2 ^ 25 / 64 * 1048576 + (fld n 12 3 + fld n 15 5 * 8) * 4096 + fld n 20 5 % 2 * 2048 + (fld n 20 5 / 2 + n / 2 ^ 25 % 64 * 16) * 2) 21 (by omega) (by simp)
        rw [hc, gi5, fl.i5] at hv
        rw [← hv] at q0
        obtain ⟨z1, z2, z3, z4⟩ := digits21 q0 hg lc ld le
        rw [hc, a51, a52, a53, a54, z1, z2, z3, z4, e1, e2, e3, q1, Nat.zero_add, Nat.zero_add, Nat.zero_add, show p1 5 (uN v) = 0 from rfl]
        rfl
  · obtain ⟨g1, g2, g3⟩ := ft.up (by omega)
    have hX : xi4 k v = 0 ∧ xi5 k v = 0 := by
      unfold xi4 xi5
      simp only [if_neg (show ¬ 0 < shf k by omega), g1, y4, y5, and_self]
    rw [hX.1, hX.2, g1, y1, y2, y3]
    by_cases h54 : k < 54
    · obtain ⟨w1, w2, w3, w4⟩ := ft.mid (by omega) h54
      rw [w2] at e1; rw [w3] at e2; rw [w4] at e3
      have e1 : rd = 0 := e1
      have e2 : r1 = 0 := e2
      have e3 : r2 = 0 := e3
      rw [h10, hb54 h54] at e5 e6
      have e5 : aq = false := e5
      have e6 : rl = false := e6
      rw [e1, e2, e3, e5, e6, w1]
      simp only [Bool.false_eq_true, if_false, Nat.add_zero, Nat.zero_add]
      have hk4 : k = 50 ∨ k = 51 ∨ k = 52 ∨ k = 53 := by omega
      by_cases hfe : k = 50 ∨ k = 51
      · have hc : (!(k == 50 || k == 51)) = false := by rcases hfe with rfl | rfl <;> rfl
        rw [hc, Bool.false_or] at k6
        simp only [Bool.and_eq_true] at k6
        obtain ⟨⟨u1, u2⟩, u3⟩ := k6
        obtain ⟨-, s2⟩ := s1 (nott u1)
        obtain ⟨s3, -⟩ := s2 (nott u2)
        obtain ⟨t1, t2⟩ := s3 u3
        have ho : opc k = 15 := by rcases hfe with rfl | rfl <;> rfl
        have hl128 : n % 128 = 15 := by rw [s0, ho]
        rcases hfe with hk' | hk'
        · have hm : (267415679 : Nat) = mk 127 0 7 0 31 7 := by rw [mk_def]
          unfold fenceMask
          rw [if_pos hk', hm, and_fields hn hl128 rfl t1 rfl rfl rfl (by decide) (by decide) (by decide) (by decide) (by decide) (by decide)]
          rw [if_neg (by omega), if_pos hk'] at e7 e8
          rw [e7, e8, fl.x24, fl.x20, ho]
          have z31 : fld n 20 5 &&& 31 = fld n 20 5 := by
            have := Nat.and_two_pow_sub_one_eq_mod (fld n 20 5) 5
            rw [show (2 ^ 5 - 1 : Nat) = 31 from rfl] at this
            rw [this]; omega
          have z7 : n / 2 ^ 25 &&& 7 = n / 2 ^ 25 % 8 := Nat.and_two_pow_sub_one_eq_mod (n / 2 ^ 25) 3
          have hA : hiA k = 0 := by rw [hk']; rfl
          have hB : hiB k = 0 := by rw [hk']; rfl
          rw [z31, z7, hA, hB, Nat.and_zero, Nat.and_zero, show (15 &&& 127 : Nat) = 15 from rfl, show (0 &&& 7 : Nat) = 0 from rfl, Nat.zero_add, Nat.zero_add]
          have q1 : (fld n 20 5 / 16 + n / 2 ^ 25 % 8 * 2) % 2 * 16 + fld n 20 5 % 16 = fld n 20 5 := by omega
          have q2 : (fld n 20 5 / 16 + n / 2 ^ 25 % 8 * 2) / 2 = n / 2 ^ 25 % 8 := by omega
          rw [q1, q2]
        · have hm : (4293947519 : Nat) = mk 127 0 7 0 31 127 := by rw [mk_def]
          have hq : n / 2 ^ 20 = 2099 := by
            rw [hk'] at t2
            exact beq_iff_eq.1 t2
          have hd := fl.d20
          have he : fld n 20 5 = 19 := by omega
          have hg2 : n / 2 ^ 25 = 65 := by omega
          unfold fenceMask
          rw [if_neg (by omega), if_pos hk', hm, and_fields hn hl128 rfl t1 rfl he hg2 (by decide) (by decide) (by decide) (by decide) (by decide) (by decide)]
          rw [if_pos hk'] at e7 e8
          have hA : hiA k = 0 := by rw [hk']; rfl
          have hB : hiB k = 64 := by rw [hk']; rfl
          rw [e7, e8, ho, hA, hB, Nat.and_zero, Nat.and_zero]
          rfl
      · have hc : (!(k == 52 || k == 53)) = false := by
          have : k = 52 ∨ k = 53 := by omega
          rcases this with rfl | rfl <;> rfl
        rw [hc, Bool.false_or] at k7
        simp only [Bool.and_eq_true] at k7
        obtain ⟨s2, -⟩ := s1 (nott k7.1)
        have s2 := s2 k7.2
        have hm : fenceMask k n = n := by unfold fenceMask; rw [if_neg (by omega), if_neg (by omega)]
        rw [if_neg (by omega), if_neg (by omega)] at e7 e8
        rw [hm, e7, e8]
        rcases s2 with ⟨hn', hk'⟩ | ⟨hn', hk'⟩
        · rw [hn', hk', show hiA 52 = 0 from rfl, show hiB 52 = 0 from rfl, show opc 52 = 115 from rfl, mk_def]
        · rw [hn', hk', show hiA 53 = 1 from rfl, show hiB 53 = 0 from rfl, show opc 53 = 115 from rfl, mk_def]
    · have hc : Nat.blt k 54 = false := by
        cases hb : Nat.blt k 54 with
        | false => rfl
        | true => rw [Nat.blt_eq] at hb; omega
      rw [hc, Bool.false_or] at k8
      simp only [Bool.and_eq_true] at k8
      obtain ⟨⟨⟨w1, w2⟩, ⟨⟨u1, u2⟩, u3⟩, u4⟩, u5⟩ := k8
      obtain ⟨-, s2⟩ := s1 (nott u1)
      obtain ⟨-, s3⟩ := s2 (nott u2)
      obtain ⟨t1, -, -, t4⟩ := s3 (nott u3)
      obtain ⟨t5, t6⟩ := t4 (nott u4) g2
      have hm : fenceMask k n = n := by unfold fenceMask; rw [if_neg (by omega), if_neg (by omega)]
      have hA : hiA k = 0 := by unfold hiA; rw [if_neg (by omega)]
      have hB : hiB k = fiv k * 4 := by
        unfold hiB
        rw [g3]
        simp only [Bool.false_eq_true, if_false]
        rw [if_neg (by omega), if_pos (by omega)]
      have hb : Nat.ble 54 k = true := Nat.ble_eq.mpr (by omega)
      rw [if_neg (by omega), if_neg (by omega)] at e7 e8
      rw [w1, if_pos rfl] at e1
      rw [w2, if_pos rfl] at e2
      rw [h10, hb, Bool.true_and, fl.b26] at e5
      rw [h10, hb, Bool.true_and, fl.b25] at e6
      have hfive : n / 2 ^ 27 = fiv k ∧ r2 = fld n 20 5 := by
        cases c10 : decide (srt (k : Int) = 10) with
        | true =>
          rw [c10, cond_true] at u5
          simp only [Bool.and_eq_true, beq_iff_eq] at u5
          obtain ⟨t7, t8⟩ := t5 c10
          rw [nott u5.1] at e3
          have e3 : r2 = 0 := e3
          exact ⟨by rw [t7, u5.2], by rw [e3, t8]⟩
        | false =>
          rw [c10, cond_false] at u5
          simp only [Bool.and_eq_true] at u5
          rw [u5.1, if_pos rfl] at e3
          exact ⟨t6 c10 u5.2, e3⟩
      have h27 := fl.d27
      rw [hfive.1] at h27
      have q5 : fiv k * 4 + (if aq then 2 else 0) + (if rl then 1 else 0) = n / 2 ^ 25 := by
        have z1 : (if aq then 2 else 0) = n / 2 ^ 25 / 2 % 2 * 2 := by
          rw [e5]
          have : n / 2 ^ 25 / 2 % 2 = 0 ∨ n / 2 ^ 25 / 2 % 2 = 1 := by omega
          rcases this with g | g <;> rw [g] <;> rfl
        have z2 : (if rl then 1 else 0) = n / 2 ^ 25 % 2 := by
          rw [e6]
          have : n / 2 ^ 25 % 2 = 0 ∨ n / 2 ^ 25 % 2 = 1 := by omega
          rcases this with g | g <;> rw [g] <;> rfl
        rw [z1, z2]; omega
      rw [hm, hA, hB, e7, e8, e1, e2, hfive.2, ← s0, ← t1]
      simp only [Nat.add_zero, Nat.zero_add, Nat.zero_mod, Nat.zero_mul, Nat.zero_div]
      rw [q5]
      exact hmk.symm
end Go.Proofs.YtkcfkegkhopakaaGreatDoor
