/- Numerals: a number's text, and a text's number. No condition beyond a number's size. -/
import Derived.Test.YtkcfkegkhopakaaGreatDoorShX3
import Derived.Lib.ParseIntBTie
namespace Go.Sh
open Go Go.Ev
set_option linter.unusedVariables false
set_option linter.unusedSimpArgs false

def isD (c : UInt8) : Prop := 48 ≤ c.toNat ∧ c.toNat ≤ 57
def allD (l : List UInt8) : Prop := ∀ c ∈ l, isD c
/-- what digits spell, behind others -/
def vl : List UInt8 → Nat → Nat
  | [], a => a
  | c :: r, a => vl r (a * 10 + (c.toNat - 48))

theorem vl_app : ∀ (l m : List UInt8) (a : Nat), vl (l ++ m) a = vl m (vl l a)
  | [], m, a => rfl
  | c :: r, m, a => vl_app r m _
theorem vl_ge : ∀ (l : List UInt8) (a : Nat), a ≤ vl l a
  | [], a => Nat.le_refl a
  | c :: r, a => Nat.le_trans (by omega) (vl_ge r (a * 10 + (c.toNat - 48)))
theorem vl_lt : ∀ {l : List UInt8} (a : Nat), allD l → vl l a < (a + 1) * 10 ^ l.length
  | [], a, _ => by simp [vl]
  | c :: r, a, h => by
    have h1 := vl_lt (l := r) (a * 10 + (c.toNat - 48)) (fun x hx => h x (List.mem_cons_of_mem _ hx))
    have h2 := h c (List.mem_cons_self ..)
    show vl r _ < _
    rw [List.length_cons, Nat.pow_succ]
    have h3 : (a * 10 + (c.toNat - 48) + 1) ≤ (a + 1) * 10 := by have := h2.2; omega
    calc vl r (a * 10 + (c.toNat - 48)) < (a * 10 + (c.toNat - 48) + 1) * 10 ^ r.length := h1
      _ ≤ (a + 1) * 10 * 10 ^ r.length := Nat.mul_le_mul_right _ h3
      _ = (a + 1) * (10 ^ r.length * 10) := by rw [Nat.mul_assoc, Nat.mul_comm 10]

theorem dig_is {n : Nat} (h : n < 10) : isD (UInt8.ofNat (48 + n)) ∧ (UInt8.ofNat (48 + n)).toNat = 48 + n := by
  have e : (UInt8.ofNat (48 + n)).toNat = 48 + n := by rw [UInt8.toNat_ofNat']; omega
  exact ⟨⟨by rw [e]; omega, by rw [e]; omega⟩, e⟩
theorem dig_back {c : UInt8} (h : isD c) : UInt8.ofNat (48 + (c.toNat - 48)) = c := by
  have := h.1
  rw [show 48 + (c.toNat - 48) = c.toNat by omega]
  exact UInt8.ofNat_toNat

theorem dec_all (u : Nat) : allD (Lib.decDigits u) := by
  induction u using Nat.strongRecOn with
  | _ u ih =>
    intro c hc
    by_cases h : u < 10
    · rw [Lib.decDigits, dif_pos h, List.mem_singleton] at hc
      subst hc
      exact (dig_is h).1
    · rw [Lib.decDigits, dif_neg h, List.mem_append, List.mem_singleton] at hc
      rcases hc with hc | hc
      · exact ih (u / 10) (by omega) c hc
      · subst hc
        exact (dig_is (by omega)).1
theorem dec_vl (u : Nat) : vl (Lib.decDigits u) 0 = u := by
  induction u using Nat.strongRecOn with
  | _ u ih =>
    by_cases h : u < 10
    · rw [Lib.decDigits, dif_pos h]
      show 0 * 10 + ((UInt8.ofNat (48 + u)).toNat - 48) = u
      rw [(dig_is h).2]; omega
    · rw [Lib.decDigits, dif_neg h, vl_app, ih (u / 10) (by omega)]
      show u / 10 * 10 + ((UInt8.ofNat (48 + u % 10)).toNat - 48) = u
      rw [(dig_is (by omega)).2]; omega
theorem dec_ne (u : Nat) : Lib.decDigits u ≠ [] := by
  intro h
  have := Lib.decDigits_length u
  rw [h] at this
  have := Lib.nDigits_pos u
  simp at *
  omega
/-- no zero ahead -/
theorem dec_head (u : Nat) : ∀ c r, Lib.decDigits u = c :: r → c.toNat = 48 → r = [] ∧ u = 0 := by
  induction u using Nat.strongRecOn with
  | _ u ih =>
    intro c r h hc
    by_cases h1 : u < 10
    · rw [Lib.decDigits, dif_pos h1] at h
      simp only [List.cons.injEq] at h
      obtain ⟨rfl, rfl⟩ := h
      rw [(dig_is h1).2] at hc
      exact ⟨rfl, by omega⟩
    · rw [Lib.decDigits, dif_neg h1] at h
      cases hd : Lib.decDigits (u / 10) with
      | nil => exact absurd hd (dec_ne _)
      | cons c' r' =>
        rw [hd, List.cons_append, List.cons.injEq] at h
        obtain ⟨rfl, _⟩ := h
        have := (ih (u / 10) (by omega) _ _ hd hc).2
        omega

theorem vl_pos {l : List UInt8} {c : UInt8} {r : List UInt8} (h : l = c :: r) (hd : isD c) (h0 : c.toNat ≠ 48) : 0 < vl l 0 := by
  subst h
  have := vl_ge r (0 * 10 + (c.toNat - 48))
  have := hd.1
  show 0 < vl r (0 * 10 + (c.toNat - 48))
  omega

theorem dec_uniq : ∀ (n : Nat) (l : List UInt8), l.length = n → l ≠ [] → allD l → (∀ c r, l = c :: r → c.toNat = 48 → r = []) → Lib.decDigits (vl l 0) = l := by
  intro n
  induction n with
  | zero => intro l hl hn; exact absurd (List.eq_nil_of_length_eq_zero hl) hn
  | succ n ih =>
    intro l hl hn ha hz
    obtain ⟨l', c, rfl⟩ : ∃ l' c, l = l' ++ [c] := ⟨l.dropLast, l.getLast hn, (List.dropLast_concat_getLast hn).symm⟩
    have hc : isD c := ha c (by simp)
    have hc2 := hc.2
    have hc1 := hc.1
    rw [vl_app]
    show Lib.decDigits (vl l' 0 * 10 + (c.toNat - 48)) = _
    cases l' with
    | nil =>
      rw [show vl [] 0 = 0 from rfl, Nat.zero_mul, Nat.zero_add, Lib.decDigits, dif_pos (by omega), dig_back hc]
      rfl
    | cons d r =>
      have hd : isD d := ha d (by simp)
      have h0 : d.toNat ≠ 48 := fun e => by
        have := hz d (r ++ [c]) rfl e
        simp at this
      have hp := vl_pos (l := d :: r) rfl hd h0
      rw [Lib.decDigits, dif_neg (by omega)]
      rw [show (vl (d :: r) 0 * 10 + (c.toNat - 48)) / 10 = vl (d :: r) 0 by omega, show (vl (d :: r) 0 * 10 + (c.toNat - 48)) % 10 = c.toNat - 48 by omega, dig_back hc]
      rw [ih (d :: r) (by simpa using hl) (by simp) (fun x hx => ha x (List.mem_append_left _ hx)) (fun c' r' h e => by
        simp only [List.cons.injEq] at h
        obtain ⟨rfl, rfl⟩ := h
        exact absurd e h0)]

/-! ### parsing -/
theorem parse_dec : ∀ (l : List UInt8) (acc : Nat), allD l → vl l acc ≤ 2 ^ 64 - 1 → Lib.parseUintM (2 ^ 64 - 1) acc l = .ok (vl l acc)
  | [], acc, _, _ => rfl
  | c :: r, acc, h, hv => by
    have hc : 48 ≤ c.toNat ∧ c.toNat ≤ 57 := h c (List.mem_cons_self ..)
    have h1 := vl_ge r (acc * 10 + (c.toNat - 48))
    have hv' : vl r (acc * 10 + (c.toNat - 48)) ≤ 2 ^ 64 - 1 := hv
    have e : (2 : Nat) ^ 64 - 1 = 18446744073709551615 := by decide
    unfold Lib.parseUintM
    rw [if_pos hc, if_neg (by omega), if_neg (by omega)]
    exact parse_dec r _ (fun x hx => h x (List.mem_cons_of_mem _ hx)) hv'

def I64 (v : Int) : Prop := -9223372036854775808 ≤ v ∧ v ≤ 9223372036854775807

theorem parse_itoa {v : Int} (hv : I64 v) : Lib.parseIntB 64 (Lib.itoa v) = .ok v := by
  have e63 : (2 : Nat) ^ (64 - 1) = 9223372036854775808 := by decide
  have hU : ∀ u : Nat, u ≤ 9223372036854775808 → Lib.parseUintB 64 (Lib.decDigits u) = .ok u := by
    intro u hu
    unfold Lib.parseUintB
    rw [if_neg (dec_ne u), parse_dec _ _ (dec_all u) (by rw [dec_vl]; have : (2 : Nat) ^ 64 - 1 = 18446744073709551615 := by decide
                                                         omega), dec_vl]
  obtain ⟨h1, h2⟩ := hv
  unfold Lib.itoa
  split
  · rw [Lib.parseIntB_minus, hU _ (by omega), e63]
    unfold Lib.signedC
    simp only
    rw [if_neg (by omega)]
    congr 1
    omega
  · cases hd : Lib.decDigits v.toNat with
    | nil => exact absurd hd (dec_ne _)
    | cons c r =>
      have hc := dec_all v.toNat c (by rw [hd]; exact List.mem_cons_self ..)
      have := hc.1
      rw [Lib.parseIntB_plain 64 c r (by omega) (by omega), ← hd, hU _ (by omega), e63]
      unfold Lib.signlessC
      simp only
      rw [if_neg (by omega)]
      congr 1
      omega

/-- a text's number, and whether it is one's own text -/
def numO (s : List UInt8) : Int × Bool := bif pintE s then (0, false) else if itoaF (pintN s) = s then (pintN s, true) else (0, false)

theorem i64B_of {v : Int} (h : I64 v) : i64B v = true := by
  unfold i64B
  rw [Bool.and_eq_true]
  exact ⟨decide_eq_true h.1, decide_eq_true h.2⟩
theorem pint_rng {s : List UInt8} (h : pintE s = false) : I64 (pintN s) := by
  unfold pintE at h
  unfold pintN
  split at h
  · rename_i v hv
    have := Lib.parseIntB_bounds hv
    rw [hv]
    have e63 : (2 : Nat) ^ (64 - 1) = 9223372036854775808 := by decide
    simp only
    rw [e63] at this
    constructor <;> omega
  · simp at h
theorem num_itoa {v : Int} (hv : I64 v) : numO (Lib.itoa v) = (v, true) := by
  have h := parse_itoa hv
  have e1 : pintE (Lib.itoa v) = false := by unfold pintE; rw [h]
  have e2 : pintN (Lib.itoa v) = v := by unfold pintN; rw [h]
  unfold numO
  rw [e1, e2, itoaF_is hv.1 hv.2, if_pos rfl]; rfl
theorem num_true {s : List UInt8} (h : (numO s).2 = true) : I64 (numO s).1 ∧ s = Lib.itoa (numO s).1 := by
  unfold numO at h ⊢
  cases he : pintE s with
  | true => rw [he] at h; simp at h
  | false =>
    rw [he] at h
    simp only [cond_false] at h ⊢
    split at h
    · rename_i hs
      have hr := pint_rng he
      rw [if_pos hs]
      exact ⟨hr, by simp only; rw [← itoaF_is hr.1 hr.2]; exact hs.symm⟩
    · simp at h
theorem num_false {s : List UInt8} (h : (numO s).2 = false) : numO s = (0, false) := by
  unfold numO at h ⊢
  cases he : pintE s with
  | true => rfl
  | false =>
    rw [he] at h
    simp only [cond_false] at h ⊢
    split at h
    · simp at h
    · rename_i hs; rw [if_neg hs]

/-- digits that are a number's, behind a sign or none -/
structure OkD (neg : Bool) (d : List UInt8) : Prop where
  ne : d ≠ []
  all : allD d
  zero : ∀ c r, d = c :: r → c.toNat = 48 → r = [] ∧ neg = false
  rng : vl d 0 < 9223372036854775808 ∨ (vl d 0 = 9223372036854775808 ∧ neg = true)
def sgn (neg : Bool) (d : List UInt8) : List UInt8 := if neg then 45 :: d else d
def sgv (neg : Bool) (n : Nat) : Int := if neg then -(n : Int) else n

theorem okd_itoa {neg : Bool} {d : List UInt8} (h : OkD neg d) : I64 (sgv neg (vl d 0)) ∧ sgn neg d = Lib.itoa (sgv neg (vl d 0)) := by
  have hu := dec_uniq _ d rfl h.ne h.all (fun c r e hc => (h.zero c r e hc).1)
  have hr := h.rng
  cases neg with
  | false =>
    have hr : vl d 0 < 9223372036854775808 := by rcases hr with hr | ⟨_, hr⟩; exact hr; simp at hr
    refine ⟨⟨by show -9223372036854775808 ≤ (vl d 0 : Int); omega, by show (vl d 0 : Int) ≤ _; omega⟩, ?_⟩
    show d = Lib.itoa ((vl d 0 : Nat) : Int)
    unfold Lib.itoa
    rw [if_neg (by omega), Int.toNat_natCast, hu]
  | true =>
    have hpos : 0 < vl d 0 := by
      cases hd : d with
      | nil => exact absurd hd h.ne
      | cons c r =>
        refine vl_pos rfl (h.all c (by rw [hd]; exact List.mem_cons_self ..)) (fun e => ?_)
        have := (h.zero c r hd e).2
        simp at this
    refine ⟨⟨by show -9223372036854775808 ≤ -(vl d 0 : Int); omega, by show -(vl d 0 : Int) ≤ _; omega⟩, ?_⟩
    show 45 :: d = Lib.itoa (-((vl d 0 : Nat) : Int))
    unfold Lib.itoa
    rw [if_pos (by omega), show (-((vl d 0 : Nat) : Int)).natAbs = vl d 0 by omega, hu]

theorem itoa_okd {v : Int} (hv : I64 v) : ∃ neg d, Lib.itoa v = sgn neg d ∧ OkD neg d ∧ sgv neg (vl d 0) = v ∧ d.length ≤ 19 := by
  obtain ⟨h1, h2⟩ := hv
  have len : ∀ u : Nat, u ≤ 9223372036854775808 → (Lib.decDigits u).length ≤ 19 := by
    intro u hu
    rw [Lib.decDigits_length]
    have : Lib.nDigits u ≤ 19 := by
      rcases Nat.lt_or_ge 19 (Lib.nDigits u) with h | h
      · exfalso
        have key : ∀ (k w : Nat), k < Lib.nDigits w → 10 ^ k ≤ w ∨ k = 0 := by
          intro k
          induction k with
          | zero => intro w _; exact Or.inr rfl
          | succ k ih =>
            intro w hw
            by_cases h : w < 10
            · rw [Lib.nDigits_small h] at hw; omega
            · rw [Lib.nDigits_big h] at hw
              left
              rcases ih (w / 10) (by omega) with h3 | h3
              · rw [Nat.pow_succ]; omega
              · subst h3; omega
        rcases key 19 u h with h3 | h3
        · have : (10 : Nat) ^ 19 = 10000000000000000000 := by decide
          omega
        · omega
      · exact h
    exact this
  unfold Lib.itoa
  split
  · refine ⟨true, Lib.decDigits v.natAbs, rfl, ⟨dec_ne _, dec_all _, fun c r e hc => ?_, ?_⟩, ?_, len _ (by omega)⟩
    · have := (dec_head _ c r e hc).2
      omega
    · rw [dec_vl]
      by_cases h : v.natAbs = 9223372036854775808
      · exact Or.inr ⟨h, rfl⟩
      · exact Or.inl (by omega)
    · rw [dec_vl]
      show -((v.natAbs : Nat) : Int) = v
      omega
  · refine ⟨false, Lib.decDigits v.toNat, rfl, ⟨dec_ne _, dec_all _, fun c r e hc => ⟨(dec_head _ c r e hc).1, rfl⟩, ?_⟩, ?_, len _ (by omega)⟩
    · rw [dec_vl]
      exact Or.inl (by omega)
    · rw [dec_vl]
      show ((v.toNat : Nat) : Int) = v
      omega

theorem sgn_inj {neg neg' : Bool} {d d' : List UInt8} (h : sgn neg d = sgn neg' d') (hd : ∀ c r, d = c :: r → c.toNat ≠ 45) (hd' : ∀ c r, d' = c :: r → c.toNat ≠ 45) : neg = neg' ∧ d = d' := by
  cases neg <;> cases neg' <;> simp only [sgn, if_true, if_false, Bool.false_eq_true] at h
  · exact ⟨rfl, h⟩
  · exact absurd rfl (hd _ _ h)
  · exact absurd rfl (hd' _ _ h.symm)
  · simp only [List.cons.injEq, true_and] at h
    exact ⟨rfl, h⟩
theorem okd_45 {neg : Bool} {d : List UInt8} (h : OkD neg d) : ∀ c r, d = c :: r → c.toNat ≠ 45 := by
  intro c r e h45
  have := (h.all c (by rw [e]; exact List.mem_cons_self ..)).1
  omega

/-- the number of digits behind a sign -/
theorem num_okd {neg : Bool} {d : List UInt8} (h : OkD neg d) : numO (sgn neg d) = (sgv neg (vl d 0), true) := by
  obtain ⟨h1, h2⟩ := okd_itoa h
  rw [h2, num_itoa h1]
theorem num_not {neg : Bool} {d : List UInt8} (h45 : ∀ c r, d = c :: r → c.toNat ≠ 45 ∨ neg = true) (h : ¬ (OkD neg d ∧ d.length ≤ 19)) : numO (sgn neg d) = (0, false) := by
  cases hb : (numO (sgn neg d)).2 with
  | false => exact num_false hb
  | true =>
    obtain ⟨h1, h2⟩ := num_true hb
    obtain ⟨neg', d', h3, h4, _, h5⟩ := itoa_okd h1
    have e : sgn neg d = sgn neg' d' := h2.trans h3
    exfalso
    cases neg with
    | true =>
      cases neg' with
      | true =>
        simp only [sgn, if_true, List.cons.injEq, true_and] at e
        rw [e] at h
        exact h ⟨h4, h5⟩
      | false =>
        simp only [sgn, if_true, if_false, Bool.false_eq_true] at e
        exact okd_45 h4 _ _ e.symm rfl
    | false =>
      obtain ⟨e1, e2⟩ := sgn_inj e (fun c r hd => by
        rcases h45 c r hd with h | h
        · exact h
        · simp at h) (okd_45 h4)
      rw [← e1, ← e2] at h4
      rw [← e2] at h5
      exact h ⟨h4, h5⟩
end Go.Sh
