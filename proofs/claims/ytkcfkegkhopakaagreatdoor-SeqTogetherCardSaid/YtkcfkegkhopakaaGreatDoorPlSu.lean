/- What a step leaves: ranges, and what was done. No condition beyond the inputs'. -/
import Derived.Test.YtkcfkegkhopakaaGreatDoorPlSs
namespace Go.Proofs.YtkcfkegkhopakaaGreatDoor
open Go Go.Ev Go.Sh
set_option linter.unusedVariables false
set_option linter.unusedSimpArgs false
set_option maxRecDepth 100000

/-! ### words -/
def UU (v : Int) : Prop := 0 ≤ v ∧ v < 18446744073709551616
theorem UU.nat {v : Int} (h : UU v) : ∃ n : Nat, n < 18446744073709551616 ∧ v = n := ⟨v.toNat, by have := h.1; have := h.2; omega, by have := h.1; omega⟩
theorem u_nat {n : Nat} (h : n < 18446744073709551616) : UU (n : Int) := ⟨by omega, by omega⟩
theorem u_wrap (x : Int) : UU (IntKind.u64.wrap x) := u64_rng x
theorem u_and {a b : Int} (ha : UU a) (hb : UU b) : UU (bits .and .u64 a b) := by
  obtain ⟨x, hx, rfl⟩ := ha.nat
  obtain ⟨y, hy, rfl⟩ := hb.nat
  rw [and64 hx hy]; exact u_nat (Nat.lt_of_le_of_lt Nat.and_le_left hx)
theorem u_or {a b : Int} (ha : UU a) (hb : UU b) : UU (bits .or .u64 a b) := by
  obtain ⟨x, hx, rfl⟩ := ha.nat
  obtain ⟨y, hy, rfl⟩ := hb.nat
  rw [or64 hx hy]; exact u_nat (Nat.or_lt_two_pow (n := 64) hx hy)
theorem u_xor {a b : Int} (ha : UU a) (hb : UU b) : UU (bits .xor .u64 a b) := by
  obtain ⟨x, hx, rfl⟩ := ha.nat
  obtain ⟨y, hy, rfl⟩ := hb.nat
  rw [xor64 hx hy]; exact u_nat (Nat.xor_lt_two_pow (n := 64) hx hy)
theorem u_fdiv {a : Int} (ha : UU a) (k : Nat) : UU (a.fdiv (2 ^ k)) := by
  obtain ⟨x, hx, rfl⟩ := ha.nat
  rw [fdivN]; exact u_nat (Nat.lt_of_le_of_lt (Nat.div_le_self _ _) hx)
theorem u_ite {c : Prop} [Decidable c] {a b : Int} (ha : UU a) (hb : UU b) : UU (if c then a else b) := by
  split
  · exact ha
  · exact hb
theorem u_0 : UU 0 := ⟨by decide, by decide⟩
theorem u_1 : UU 1 := ⟨by decide, by decide⟩

variable {N : Nat}
section
attribute [local irreducible] jp br chk bindS fixN

theorem zext_u (x n : Int) (hx : UU x) : Post (F70 N x n) UU := by
  unfold F70
  refine post_br (fun _ => post_some u_0) (fun h1 => post_br (fun _ => post_some hx) (fun h2 => post_chk ?_ (post_some (u_and hx (u_wrap _)))))
  have := of_decide_eq_false h1
  exact decide_eq_true (by omega)

theorem sext_u (x n : Int) (hx : UU x) : Post (F127 N x n) UU := by
  unfold F127 R127
  refine post_jp (fun y => y = false → 1 ≤ n ∧ n < 64) (fun y hy => ?_) (fun K hK => ?_)
  · refine post_br (fun _ => post_bind (zext_u _ _ hx) (fun _ h => post_some h)) (fun h => ?_)
    obtain ⟨h1, h2⟩ := hy h
    have e : IntKind.i64.wrap (64 - n) = 64 - n := wrap64 (by omega) (by omega)
    rw [e]
    have d : decide (0 ≤ 64 - n) = true := decide_eq_true (by omega)
    exact post_chk d (post_chk d (post_some (u_wrap _)))
  · refine post_br (fun h => hK _ (fun h => by simp at h)) (fun h1 => hK _ (fun h2 => ?_))
    have := of_decide_eq_false h1
    have := of_decide_eq_false h2
    omega

theorem one_u (b : Bool) : Post (F210 N b) UU := by
  unfold F210
  exact post_br (fun _ => post_some u_1) (fun _ => post_some u_0)

theorem narrow_u (x : Int) (hx : UU x) : Post (F211 N x) UU := by
  unfold F211 R211
  exact post_bind (sext_u _ _ hx) (fun _ h => post_some h)

theorem pair_u (op a b : Int) (ha : UU a) (hb : UU b) : Post (F179 N op a b) UU := by
  unfold F179 R179
  repeat' first
    | exact post_some (u_wrap _)
    | exact post_some (u_xor ha hb)
    | exact post_some (u_or ha hb)
    | exact post_some (u_and ha hb)
    | exact post_some (u_fdiv ha _)
    | exact post_some u_0
    | refine post_br (fun _ => ?_) (fun _ => ?_)
    | refine post_bind (one_u _) (fun _ h => post_some h)
    | refine post_bind (zext_u _ _ ha) (fun _ h => post_bind (narrow_u _ (u_fdiv h _)) (fun _ h => post_some h))
    | refine post_bind (narrow_u _ (u_wrap _)) (fun _ h => post_some h)
    | refine post_bind (narrow_u _ ha) (fun _ h => ?_)

theorem atomic_u (op x y n : Int) (hx : UU x) (hy : UU y) : Post (F126 N op x y n) UU := by
  unfold F126 R126
  refine post_bind (zext_u _ _ hx) (fun _ h1 => post_bind (zext_u _ _ hy) (fun _ h2 => ?_))
  repeat' first
    | exact post_some hy
    | exact post_some (u_wrap _)
    | exact post_some (u_xor hx hy)
    | exact post_some (u_or hx hy)
    | exact post_some (u_and hx hy)
    | exact post_some (u_ite h2 h1)
    | refine post_br (fun _ => ?_) (fun _ => ?_)

theorem result_u (hN : 100 ≤ N) (i : Ins) (pc a b : Int) (ha : UU a) (hb : UU b) : Post (F131 N i pc a b) UU := by
  unfold F131 R131
  refine post_bind (sort_t hN _) (fun y hy => ?_)
  refine post_br (fun _ => post_br (fun _ => post_some (u_wrap _)) (fun _ => post_some (u_wrap _))) (fun _ => post_br (fun _ => post_some (u_wrap _)) (fun _ => ?_))
  refine post_br (fun h => ?_) (fun _ => post_br (fun _ => post_bind (pair_u _ _ _ ha hb) (fun _ h => post_some h)) (fun _ => post_some u_0))
  obtain ⟨h1, h2⟩ := srt6 (hy.symm.trans (of_decide_eq_true h))
  have e : IntKind.i64.wrap (i.1 - 22) = i.1 - 22 := wrap64 (by omega) (by omega)
  rw [e]
  refine post_bind (P := All) (by unfold F180; exact post_some trivial) (fun _ _ => post_chk ?_ (post_bind (pair_u _ _ _ ha (u_wrap _)) (fun _ h => post_some h)))
  rw [Bool.and_eq_true]
  exact ⟨decide_eq_true (by omega), decide_eq_true (by show i.1 - 22 < 13; omega)⟩

theorem stored_u (hN : 100 ≤ N) (op x y : Int) (hx : UU x) (hy : UU y) : Post (F74 N op x y) UU := by
  unfold F74 R74
  refine post_bind (size_t hN _) (fun _ _ => post_bind (sort_t hN _) (fun _ _ => post_jp All (fun _ _ => ?_) (fun K hK => post_br (fun _ => hK _ trivial) (fun _ => hK _ trivial))))
  refine post_br (fun _ => post_bind (zext_u _ _ hy) (fun _ h => post_some h)) (fun _ => post_br (fun _ => ?_) (fun _ => post_some u_0))
  refine post_bind (sext_u _ _ hx) (fun _ h1 => post_bind (sext_u _ _ hy) (fun _ h2 => post_bind (atomic_u _ _ _ _ h1 h2) (fun _ h3 => post_bind (zext_u _ _ h3) (fun _ h => post_some h))))

theorem loaded_u (hN : 100 ≤ N) (op x : Int) (hx : UU x) : Post (F130 N op x) UU := by
  unfold F130 R130
  refine post_bind (size_t hN _) (fun _ _ => post_bind (sort_t hN _) (fun _ _ => post_jp All (fun _ _ => post_bind (sext_u _ _ hx) (fun _ h => post_some h)) (fun K hK => ?_)))
  refine post_br (fun _ => post_br (fun _ => post_bind (zext_u _ _ hx) (fun _ h => post_some h)) (fun _ => hK _ trivial)) (fun _ => ?_)
  exact post_jp All (fun _ _ => post_br (fun _ => hK _ trivial) (fun _ => post_some u_0)) (fun K' hK' => post_br (fun _ => hK' _ trivial) (fun _ => hK' _ trivial))

theorem rg_uu {l : List Int} (h : RG l) (i : Nat) : UU (l.getD i 0) := by
  obtain ⟨n, h1, h2⟩ := rg_get h i
  rw [h2]; exact u_nat h1

theorem value_u (hN : 100 ≤ N) (h : Int × List Int × Int) (hX : RG h.2.1) {i : Ins} (hi : RegOk i) (r : Int) (hr : UU r) (f : Bool) : Post (F77 N h i r f) UU := by
  unfold F77 R77
  refine post_bind (loads_t hN _) (fun _ _ => post_br (fun _ => post_bind (loaded_u hN _ _ hr) (fun _ h => post_some h)) (fun _ => post_bind (sort_t hN _) (fun _ _ => post_br (fun _ => ?_) (fun _ => post_br (fun _ => post_some u_1) (fun _ => post_some u_0)))))
  exact post_chk (reg1 hi) (post_chk (reg2 hi) (post_bind (result_u hN _ _ _ _ (rg_uu hX _) (rg_uu hX _)) (fun _ h => post_some h)))
end

/-! ### places -/
def whr (k a n : Nat) : Int := if siz k = 0 then 0 else if a % siz k ≠ 0 then 4 else if n < siz k ∨ n - siz k < a then 3 else 0

theorem Where_is (hN : 100 ≤ N) {k : Nat} (hk : k ≤ 75) {a n : Nat} (ha : a < 18446744073709551616) (hn : n < 1099511627776) : F125 N (k : Int) a n = some (whr k a n) := by
  have t := siz_ok hN hk
  have hs := siz_cases k
  unfold F125 R125 whr
  rw [t.sizP, bindS_some, u64N (n := siz k) (by omega), i64N (n := siz k) (by omega), tmodN, u64N (n := n) (by omega)]
  by_cases h0 : siz k = 0
  · rw [if_pos h0, brT (by omega)]
  · rw [if_neg h0, brF (by omega), chk_true (by rw [decide_eq_false (by omega)]; rfl)]
    by_cases h1 : a % siz k = 0
    · rw [if_neg (by omega), br_false (by rw [decide_eq_true (by omega)]; rfl)]
      simp only [jp_eq]
      by_cases h2 : n < siz k
      · rw [if_pos (Or.inl h2), brT (by omega), br_t]
      · rw [brF (by omega), wrapU64 (n := (n : Int) - siz k) (by omega) (by omega)]
        by_cases h3 : n - siz k < a
        · rw [if_pos (Or.inr h3), br_true (decide_eq_true (by omega))]
        · rw [if_neg (by omega), br_false (decide_eq_false (by omega))]
    · rw [if_pos h1, br_true (by rw [decide_eq_false (by omega)]; rfl)]

theorem whr0 {k a n : Nat} (h : whr k a n = 0) (hs : siz k ≠ 0) : a + siz k ≤ n := by
  unfold whr at h
  rw [if_neg hs] at h
  split at h
  · simp at h
  · split at h
    · simp at h
    · omega

/-- what is reckoned of an instruction: its place -/
structure AdOk (N : Nat) (k : Nat) (rest : Rest) (X : List Int) (L ad : Nat) : Prop where
  lt : ad < 18446744073709551616
  is : F124 N ((k : Int), rest) (X.getD rest.2.1.toNat 0) = some (ad : Int)

/-- what was done, if nothing halted -/
structure Dn (k : Nat) (rest : Rest) (f : Bool) (L ad : Nat) (d : DoneT) : Prop where
  inst : d.2.1 = ((k : Int), rest)
  addr : siz k ≠ 0 → d.2.2.2.2.1 = (ad : Int) ∧ whr k ad L = 0
  fail : d.2.2.2.2.2.2.2 = (f && decide (srt k = 11))
  wrote : UU d.2.2.2.2.2.2.1

theorem step_p (hN : 100 ≤ N) {p : Int} (hp : UU p) {X : List Int} (hX : RG X) (hlen : X.length = 32) (h0 : R0 X) {rd : Int} (hrd : UU rd) (f : Bool) {img : List Int} (hl : img.length ≤ 1024)
    {k : Nat} {rest : Rest} {c : Int} (hk : k ≤ 75) (hreg : RegOk ((k : Int), rest)) (hf : F27 N p img = some (((k : Int), rest), c)) {ad : Nat} (hA : AdOk N k rest X img.length ad) :
    Post (F29 N (p, X, 0) rd f img) (fun v => (UU v.1.1 ∧ RG v.1.2.1 ∧ v.1.2.1.length = 32 ∧ R0 v.1.2.1) ∧ v.2.2.2.1 = v.1.2.2 ∧ (v.1.2.2 = 0 → Dn k rest f img.length ad v.2)) := by
  have t := siz_ok hN hk
  unfold F29 R29
  simp only
  rw [h0.start, hf, bindS_some]
  have hWh := Where_is hN hk hA.lt (n := img.length) (by omega)
  have base : UU p ∧ RG X ∧ X.length = 32 ∧ R0 X := ⟨hp, hX, hlen, h0⟩
  refine post_br (fun h => by simp at h) (fun _ => ?_)
  refine post_jp (fun y1 => y1.2.1 = ((k : Int), rest) ∧ y1.2.2.2.2.2.2.1 = 0 ∧ y1.2.2.2.2.2.2.2 = false ∧ (y1.2.2.1 = 0 → siz k ≠ 0 → y1.2.2.2.2.1 = (ad : Int) ∧ whr k ad img.length = 0)) (fun y1 h1 => ?_) (fun K hK => ?_)
  · obtain ⟨g1, g2, g3, g4⟩ := h1
    refine post_br (fun h => post_some ⟨base, rfl, fun e => ?_⟩) (fun h => ?_)
    · simp only at e
      rw [e] at h
      simp at h
    · have hc : y1.2.2.1 = 0 := by simpa using h
      have g4' := g4 hc
      refine post_jp (fun y2 => y2.2.1 = ((k : Int), rest) ∧ y2.2.2.1 = 0 ∧ y2.2.2.2.2.2.2.1 = 0 ∧ (siz k ≠ 0 → y2.2.2.2.2.1 = (ad : Int) ∧ whr k ad img.length = 0)) (fun y2 h2 => ?_) (fun K hK => ?_)
      · obtain ⟨a1, a2, a3, a4⟩ := h2
        refine post_jp (fun y3 => y3.2.1 = ((k : Int), rest) ∧ y3.2.2.1 = 0 ∧ y3.2.2.2.2.2.2.1 = 0 ∧ y3.2.2.2.2.2.2.2 = (f && decide (srt k = 11)) ∧ (siz k ≠ 0 → y3.2.2.2.2.1 = (ad : Int) ∧ whr k ad img.length = 0)) (fun y3 h3 => ?_) (fun K hK => ?_)
        · obtain ⟨b1, b2, b3, b4, b5⟩ := h3
          refine post_jp (fun y4 => y4.2.2.1 = 0 ∧ Dn k rest f img.length ad y4) (fun y4 h4 => ?_) (fun K hK => ?_)
          · obtain ⟨h4c, h4⟩ := h4
            refine post_chk (reg1 hreg) (post_chk (reg2 hreg) (post_bind (next_t _ _ _ _) (fun y5 h5 => ?_)))
            refine post_jp (fun y6 => (RG y6.1.2.1 ∧ y6.1.2.1.length = 32 ∧ R0 y6.1.2.1) ∧ y6.1.2.2 = 0 ∧ y6.2.2.2.1 = 0 ∧ Dn k rest f img.length ad y6.2) (fun y6 h6 => post_some ⟨⟨h5, h6.1⟩, h6.2.2.1.trans h6.2.1.symm, fun _ => h6.2.2.2⟩) (fun K hK => ?_)
            refine post_bind (target_t hN _) (fun y8 h8 => post_br (fun h => ?_) (fun _ => hK _ ⟨⟨hX, hlen, h0⟩, rfl, h4c, h4⟩))
            have hp := of_decide_eq_true h
            refine post_bind (value_u hN _ hX hreg _ hrd _) (fun y9 h9 => post_chk ?_ (hK _ ⟨⟨rg_set hX (by omega) h9, ?_, h0.set (by omega) _⟩, rfl, h4c, ⟨h4.inst, h4.addr, h4.fail, h4.wrote⟩⟩))
            · rw [Bool.and_eq_true]; exact ⟨decide_eq_true h8.1, decide_eq_true (by show y8 < ((32 : Nat) : Int); omega)⟩
            · simp only
              rw [setD_eq _ _ _ (by omega), List.length_set, hlen]
          · refine post_jp All (fun y11 _ => post_br (fun _ => post_chk (reg2 hreg) (post_bind (stored_u hN _ _ _ hrd (rg_uu hX _)) (fun _ h => hK _ ⟨b2, b1, b5, b4, h⟩))) (fun _ => hK _ ⟨b2, b1, b5, b4, by rw [b3]; exact u_0⟩)) (fun K' hK' => ?_)
            exact post_bind (stores_t hN _) (fun _ _ => post_br (fun _ => hK' _ trivial) (fun _ => hK' _ trivial))
        · refine post_br (fun hx => ?_) (fun hx => ?_)
          · refine post_bind (sort_t hN _) (fun y hy => hK _ ⟨a1, a2, a3, ?_, a4⟩)
            simp only
            rw [hx, hy]; rfl
          · refine hK _ ⟨a1, a2, a3, ?_, a4⟩
            rw [hx]; rfl
      · exact post_bind (loads_t hN _) (fun _ _ => post_br (fun _ => post_bind (size_t hN _) (fun _ _ => post_bind (zext_t _ _) (fun _ _ => hK _ ⟨g1, hc, g2, g4'⟩))) (fun _ => hK _ ⟨g1, hc, g2, g4'⟩))
  · refine post_br (fun _ => ?_) (fun h => hK _ ⟨rfl, rfl, rfl, fun e => ?_⟩)
    · unfold F68 R68
      have hM : F123 N (k : Int) = some (decide ((0 : Int) < (siz k : Int))) := by
        unfold F123 R123; rw [t.sizP, bindS_some]
      simp only [hM, bindS_some, hA.is, hWh]
      refine post_bind (P := fun y : Int × Int => y.1 = 0 → siz k ≠ 0 → y.2 = (ad : Int) ∧ whr k ad img.length = 0) ?_ (fun y hy => hK _ ⟨rfl, rfl, rfl, hy⟩)
      refine post_br (fun _ => post_some (fun e => by simp at e)) (fun _ => post_br (fun _ => post_some (fun e => by simp at e)) (fun _ => ?_))
      refine post_br (fun h => post_some (fun _ e => ?_)) (fun _ => post_chk (reg1 hreg) ?_)
      · rw [decide_eq_true (by omega)] at h; simp at h
      · refine post_br (fun _ => post_some (fun e => by simp at e)) (fun h4 => post_br (fun _ => post_some (fun e => by simp at e)) (fun h3 => post_some (fun _ hs => ⟨rfl, ?_⟩)))
        have h4 := of_decide_eq_false h4
        have h3 := of_decide_eq_false h3
        revert h3 h4
        unfold whr
        split
        · intro _ _; rfl
        · split
          · intro h h'; first | exact absurd rfl h | exact absurd rfl h'
          · split
            · intro h h'; first | exact absurd rfl h | exact absurd rfl h'
            · intro _ _; rfl
    · have e' : c = 0 := e
      rw [e'] at h
      simp at h
end Go.Proofs.YtkcfkegkhopakaaGreatDoor
