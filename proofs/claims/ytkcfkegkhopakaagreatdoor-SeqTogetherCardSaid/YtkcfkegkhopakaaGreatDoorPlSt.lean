/- Every step of a hart comes to an end; register 0 stays. No condition beyond the inputs'. -/
import Derived.Test.YtkcfkegkhopakaaGreatDoorPlX2
namespace Go.Proofs.YtkcfkegkhopakaaGreatDoor
open Go Go.Ev Go.Sh
set_option linter.unusedVariables false
set_option linter.unusedSimpArgs false

/-- it comes to a value that is so -/
def Post {α : Type} (o : Option α) (Q : α → Prop) : Prop := ∃ v, o = some v ∧ Q v

theorem post_some {α : Type} {Q : α → Prop} {v : α} (h : Q v) : Post (some v) Q := ⟨v, rfl, h⟩
theorem post_eq {α : Type} {Q : α → Prop} {o : Option α} {v : α} (e : o = some v) (h : Q v) : Post o Q := ⟨v, e, h⟩
theorem post_mono {α : Type} {Q Q' : α → Prop} {o : Option α} (h : Post o Q) (hq : ∀ v, Q v → Q' v) : Post o Q' := by
  obtain ⟨v, e, h1⟩ := h; exact ⟨v, e, hq v h1⟩
theorem post_br {α : Type} {Q : α → Prop} {c : Bool} {a b : Option α} (h1 : c = true → Post a Q) (h2 : c = false → Post b Q) : Post (br c a b) Q := by
  cases c
  · exact h2 rfl
  · exact h1 rfl
theorem post_chk {α : Type} {Q : α → Prop} {c : Bool} {a : Option α} (h1 : c = true) (h2 : Post a Q) : Post (chk c a) Q := by
  subst h1; exact h2
theorem post_bind {α β : Type} {Q : β → Prop} {P : α → Prop} {r : Option α} {k : α → Option β} (h1 : Post r P) (h2 : ∀ y, P y → Post (k y) Q) : Post (bindS r k) Q := by
  obtain ⟨v, e, h⟩ := h1
  subst e
  exact h2 v h
theorem post_jp {α β : Type} {Q : β → Prop} (P : α → Prop) {k : α → Option β} {body : (α → Option β) → Option β} (h1 : ∀ x, P x → Post (k x) Q) (h2 : ∀ K : α → Option β, (∀ x, P x → Post (K x) Q) → Post (body K) Q) : Post (jp k body) Q := by
  rw [jp_eq]
  exact h2 k h1

abbrev All {α : Type} : α → Prop := fun _ => True

variable {N : Nat}

section
attribute [local irreducible] jp br chk bindS fixN

theorem sort_t (hN : 100 ≤ N) (op : Int) : Post (F72 N op) (fun v => v = srt op) := post_eq (Sort_is hN op) rfl

theorem zext_t (x n : Int) : Post (F70 N x n) All := by
  unfold F70
  refine post_br (fun _ => post_some trivial) (fun h1 => post_br (fun _ => post_some trivial) (fun h2 => post_chk ?_ (post_some trivial)))
  have := of_decide_eq_false h1
  exact decide_eq_true (by omega)

theorem sext_t (x n : Int) : Post (F127 N x n) All := by
  unfold F127 R127
  refine post_jp (fun y => y = false → 1 ≤ n ∧ n < 64) (fun y hy => ?_) (fun K hK => ?_)
  · refine post_br (fun _ => post_bind (zext_t _ _) (fun _ _ => post_some trivial)) (fun h => ?_)
    obtain ⟨h1, h2⟩ := hy h
    have e : IntKind.i64.wrap (64 - n) = 64 - n := wrap64 (by omega) (by omega)
    rw [e]
    have d : decide (0 ≤ 64 - n) = true := decide_eq_true (by omega)
    exact post_chk d (post_chk d (post_some trivial))
  · refine post_br (fun h => hK _ (fun h => by simp at h)) (fun h1 => hK _ (fun h2 => ?_))
    have := of_decide_eq_false h1
    have := of_decide_eq_false h2
    omega

theorem size_t (hN : 100 ≤ N) (op : Int) : Post (F71 N op) All := by
  unfold F71 R71
  repeat' first
    | exact post_some trivial
    | refine post_jp All (fun _ _ => ?_) (fun K hK => ?_)
    | refine post_br (fun _ => ?_) (fun _ => ?_)
    | refine post_bind (sort_t hN _) (fun _ _ => ?_)
    | apply_assumption
    | exact trivial

theorem loads_t (hN : 100 ≤ N) (op : Int) : Post (F69 N op) All := by
  unfold F69 R69
  repeat' first
    | exact post_some trivial
    | refine post_jp All (fun _ _ => ?_) (fun K hK => ?_)
    | refine post_br (fun _ => ?_) (fun _ => ?_)
    | refine post_bind (sort_t hN _) (fun _ _ => ?_)
    | apply_assumption
    | exact trivial

theorem stores_t (hN : 100 ≤ N) (op : Int) : Post (F73 N op) All := by
  unfold F73 R73
  repeat' first
    | exact post_some trivial
    | refine post_jp All (fun _ _ => ?_) (fun K hK => ?_)
    | refine post_br (fun _ => ?_) (fun _ => ?_)
    | refine post_bind (sort_t hN _) (fun _ _ => ?_)
    | apply_assumption
    | exact trivial

theorem memory_t (hN : 100 ≤ N) (op : Int) : Post (F123 N op) All := by
  unfold F123 R123
  exact post_bind (size_t hN _) (fun _ _ => post_some trivial)

theorem address_t (hN : 100 ≤ N) (i : Ins) (a : Int) : Post (F124 N i a) All := by
  unfold F124 R124
  repeat' first
    | exact post_some trivial
    | refine post_jp All (fun _ _ => ?_) (fun K hK => ?_)
    | refine post_br (fun _ => ?_) (fun _ => ?_)
    | refine post_bind (sort_t hN _) (fun _ _ => ?_)
    | apply_assumption
    | exact trivial

theorem where_t (hN : 100 ≤ N) (op a n : Int) : Post (F125 N op a n) All := by
  unfold F125 R125
  refine post_bind (size_t hN _) (fun y _ => post_br (fun _ => post_some trivial) (fun h => post_chk (by rw [h]; rfl) ?_))
  repeat' first
    | exact post_some trivial
    | refine post_jp All (fun _ _ => ?_) (fun K hK => ?_)
    | refine post_br (fun _ => ?_) (fun _ => ?_)
    | apply_assumption
    | exact trivial

theorem taken_t (i : Ins) (a b : Int) : Post (F128 N i a b) All := by
  unfold F128
  repeat' first
    | exact post_some trivial
    | refine post_br (fun _ => ?_) (fun _ => ?_)

theorem u64_rng (x : Int) : 0 ≤ IntKind.u64.wrap x ∧ IntKind.u64.wrap x < 18446744073709551616 := by
  rw [u64_wrap_eq]; omega

theorem next_t (i : Ins) (pc a b : Int) : Post (F75 N i pc a b) (fun v => 0 ≤ v ∧ v < 18446744073709551616) := by
  unfold F75 R75
  refine post_jp All (fun y _ => ?_) (fun K hK => ?_)
  · refine post_br (fun _ => post_some (u64_rng _)) (fun _ => post_br (fun _ => post_some ?_) (fun _ => post_some (u64_rng _)))
    obtain ⟨h1, h2⟩ := u64_rng (a + IntKind.u64.wrap i.2.2.2.2.1)
    generalize IntKind.u64.wrap (a + IntKind.u64.wrap i.2.2.2.2.1) = x at h1 h2 ⊢
    obtain ⟨n, rfl⟩ : ∃ n : Nat, x = n := ⟨x.toNat, by omega⟩
    have hn : n < 2 ^ 64 := by omega
    rw [show (1 : Int) = ((1 : Nat) : Int) from rfl, bits_nat_andNot (k := .u64) rfl hn (by decide)]
    have := Nat.and_le_left (n := n) (m := 2 ^ IntKind.u64.bits - 1 - 1)
    omega
  · exact post_br (fun _ => hK _ trivial) (fun _ => post_bind (taken_t _ _ _) (fun _ _ => hK _ trivial))

theorem atomic_t (op x y n : Int) : Post (F126 N op x y n) All := by
  unfold F126 R126
  refine post_bind (zext_t _ _) (fun _ _ => post_bind (zext_t _ _) (fun _ _ => ?_))
  repeat' first
    | exact post_some trivial
    | refine post_br (fun _ => ?_) (fun _ => ?_)

theorem stored_t (hN : 100 ≤ N) (op x y : Int) : Post (F74 N op x y) All := by
  unfold F74 R74
  repeat' first
    | exact post_some trivial
    | refine post_jp All (fun _ _ => ?_) (fun K hK => ?_)
    | refine post_br (fun _ => ?_) (fun _ => ?_)
    | refine post_bind (sort_t hN _) (fun _ _ => ?_)
    | refine post_bind (size_t hN _) (fun _ _ => ?_)
    | refine post_bind (zext_t _ _) (fun _ _ => ?_)
    | refine post_bind (sext_t _ _) (fun _ _ => ?_)
    | refine post_bind (atomic_t _ _ _ _) (fun _ _ => ?_)
    | apply_assumption
    | exact trivial

theorem loaded_t (hN : 100 ≤ N) (op x : Int) : Post (F130 N op x) All := by
  unfold F130 R130
  repeat' first
    | exact post_some trivial
    | refine post_jp All (fun _ _ => ?_) (fun K hK => ?_)
    | refine post_br (fun _ => ?_) (fun _ => ?_)
    | refine post_bind (sort_t hN _) (fun _ _ => ?_)
    | refine post_bind (size_t hN _) (fun _ _ => ?_)
    | refine post_bind (zext_t _ _) (fun _ _ => ?_)
    | refine post_bind (sext_t _ _) (fun _ _ => ?_)
    | apply_assumption
    | exact trivial

theorem one_t (b : Bool) : Post (F210 N b) All := by
  unfold F210
  exact post_br (fun _ => post_some trivial) (fun _ => post_some trivial)

theorem narrow_t (x : Int) : Post (F211 N x) All := by
  unfold F211 R211
  exact post_bind (sext_t _ _) (fun _ _ => post_some trivial)

theorem pair_t (op a b : Int) : Post (F179 N op a b) All := by
  unfold F179 R179
  repeat' first
    | exact post_some trivial
    | refine post_br (fun _ => ?_) (fun _ => ?_)
    | refine post_bind (zext_t _ _) (fun _ _ => ?_)
    | refine post_bind (one_t _) (fun _ _ => ?_)
    | refine post_bind (narrow_t _) (fun _ _ => ?_)

theorem srt6_all : ((List.range 75).all fun i => !decide (srt ((i + 1 : Nat) : Int) = 6) || (Nat.ble 22 (i + 1) && Nat.ble (i + 1) 34)) = true := by kernel_rfl
theorem srt6 {op : Int} (h : srt op = 6) : 22 ≤ op ∧ op ≤ 34 := by
  by_cases h1 : op < 1 ∨ 75 < op
  · rw [srt_out h1] at h; omega
  · obtain ⟨k, hk⟩ : ∃ k : Nat, op = (k : Int) := ⟨op.toNat, by omega⟩
    subst hk
    have := List.all_eq_true.1 srt6_all (k - 1) (List.mem_range.2 (by omega))
    rw [show k - 1 + 1 = k by omega, h] at this
    simp only [decide_true, Bool.not_true, Bool.false_or, Bool.and_eq_true, Nat.ble_eq] at this
    omega

theorem result_t (hN : 100 ≤ N) (i : Ins) (pc a b : Int) : Post (F131 N i pc a b) All := by
  unfold F131 R131
  refine post_bind (sort_t hN _) (fun y hy => ?_)
  refine post_br (fun _ => post_br (fun _ => post_some trivial) (fun _ => post_some trivial)) (fun _ => post_br (fun _ => post_some trivial) (fun _ => ?_))
  refine post_br (fun h => ?_) (fun _ => post_br (fun _ => post_bind (pair_t _ _ _) (fun _ _ => post_some trivial)) (fun _ => post_some trivial))
  obtain ⟨h1, h2⟩ := srt6 (hy.symm.trans (of_decide_eq_true h))
  have e : IntKind.i64.wrap (i.1 - 22) = i.1 - 22 := wrap64 (by omega) (by omega)
  rw [e]
  refine post_bind (P := All) (by unfold F180; exact post_some trivial) (fun _ _ => post_chk ?_ (post_bind (pair_t _ _ _) (fun _ _ => post_some trivial)))
  rw [Bool.and_eq_true]
  exact ⟨decide_eq_true (by omega), decide_eq_true (by show i.1 - 22 < 13; omega)⟩

/-- an instruction's registers are some -/
def RegOk (i : Ins) : Prop := (0 ≤ i.2.2.1 ∧ i.2.2.1 < 32) ∧ 0 ≤ i.2.2.2.1 ∧ i.2.2.2.1 < 32

theorem reg1 {i : Ins} (h : RegOk i) : (decide (0 ≤ i.2.2.1) && decide (i.2.2.1 < ((32 : Nat) : Int))) = true := by
  rw [Bool.and_eq_true]; exact ⟨decide_eq_true h.1.1, decide_eq_true h.1.2⟩
theorem reg2 {i : Ins} (h : RegOk i) : (decide (0 ≤ i.2.2.2.1) && decide (i.2.2.2.1 < ((32 : Nat) : Int))) = true := by
  rw [Bool.and_eq_true]; exact ⟨decide_eq_true h.2.1, decide_eq_true h.2.2⟩

theorem value_t (hN : 100 ≤ N) (h : Int × List Int × Int) {i : Ins} (hi : RegOk i) (r : Int) (f : Bool) : Post (F77 N h i r f) All := by
  unfold F77 R77
  refine post_bind (loads_t hN _) (fun _ _ => post_br (fun _ => post_bind (loaded_t hN _ _) (fun _ _ => post_some trivial)) (fun _ => post_bind (sort_t hN _) (fun _ _ => post_br (fun _ => ?_) (fun _ => post_br (fun _ => post_some trivial) (fun _ => post_some trivial)))))
  exact post_chk (reg1 hi) (post_chk (reg2 hi) (post_bind (result_t hN _ _ _ _) (fun _ _ => post_some trivial)))

theorem target_t (hN : 100 ≤ N) (i : Ins) : Post (F76 N i) (fun v => 0 ≤ v ∧ v ≤ 31) := by
  unfold F76 R76
  refine post_bind (sort_t hN _) (fun _ _ => post_jp All (fun _ _ => post_br (fun _ => post_some (by decide)) (fun _ => ?_)) (fun K hK => ?_))
  · refine post_bind (P := fun v => 0 ≤ v ∧ v ≤ 31) (post_eq (register_is N _) ?_) (fun _ h => post_some h)
    unfold clp
    split <;> omega
  · repeat' first
      | refine post_br (fun _ => ?_) (fun _ => ?_)
      | exact hK _ trivial

theorem halts_t (hN : 100 ≤ N) (h : Int × List Int × Int) {i : Ins} (hi : RegOk i) (n : Int) : Post (F68 N h i n) All := by
  unfold F68 R68
  refine post_br (fun _ => post_some trivial) (fun _ => post_br (fun _ => post_some trivial) (fun _ => ?_))
  refine post_bind (memory_t hN _) (fun _ _ => post_br (fun _ => post_some trivial) (fun _ => post_chk (reg1 hi) ?_))
  refine post_bind (address_t hN _ _) (fun _ _ => post_bind (where_t hN _ _ _) (fun _ _ => ?_))
  repeat' first
    | exact post_some trivial
    | refine post_br (fun _ => ?_) (fun _ => ?_)

theorem of4_t (hN : 100 ≤ N) {l : List Int} (hl : l.length = 4) : Post (F55 N l) All := by
  unfold F55
  rw [hl]
  refine fixN_ind (fun m (y : Int × Int) => y.2 = (m : Int) - 1 ∧ m ≤ 4) (fun _ o => Post o All) ?_ N 4 _ (by omega) ⟨by decide, Nat.le_refl _⟩
  rintro m ⟨v, k⟩ again ⟨hk, hm⟩ ih
  simp only at hk
  subst hk
  refine post_br (fun h => ?_) (fun _ => post_some trivial)
  have h0 := of_decide_eq_true h
  simp only at h0
  refine post_chk ?_ (ih (m - 1) _ (by omega) ⟨?_, by omega⟩)
  · rw [Bool.and_eq_true]; exact ⟨h, decide_eq_true (by show (m : Int) - 1 < ((4 : Nat) : Int); omega)⟩
  · show IntKind.i64.wrap ((m : Int) - 1 - 1) = ((m - 1 : Nat) : Int) - 1
    rw [wrap64 (by omega) (by omega)]
    omega

end

theorem noIns_ok : RegOk noIns := ⟨⟨by decide, by decide⟩, by decide, by decide⟩

theorem insN_ok (n k : Nat) : RegOk (insN n k) := by
  have h1 := fld_lt n 15 5
  have h2 := fld_lt n 20 5
  refine ⟨?_, ?_⟩
  · show 0 ≤ (if fiO k then ((fld n 15 5 : Nat) : Int) else 0) ∧ (if fiO k then ((fld n 15 5 : Nat) : Int) else 0) < 32
    split <;> omega
  · show 0 ≤ (if seO k then ((fld n 20 5 : Nat) : Int) else 0) ∧ (if seO k then ((fld n 20 5 : Nat) : Int) else 0) < 32
    split <;> omega

theorem fetch_t (hN : 100 ≤ N) {pc : Int} (h0 : 0 ≤ pc) (h1 : pc < 18446744073709551616) {img : List Int} (hl : img.length ≤ 1024) : Post (F27 N pc img) (fun v => RegOk v.1) := by
  unfold F27 R27
  refine post_jp (fun y => y = false → 4 ≤ img.length ∧ pc ≤ (img.length : Int) - 4) (fun y hy => ?_) (fun K hK => ?_)
  · refine post_br (fun _ => post_some noIns_ok) (fun h => ?_)
    obtain ⟨h2, h3⟩ := hy h
    have e : IntKind.u64.wrap (pc + 4) = pc + 4 := wrapU64 (by omega) (by omega)
    rw [e]
    refine post_chk ?_ (post_bind (of4_t hN ?_) (fun v _ => ?_))
    · simp only [Bool.and_eq_true, decide_eq_true_eq, Nat.ble_eq]
      exact ⟨⟨⟨h0, by omega⟩, by omega⟩, by omega⟩
    · rw [List.length_take, List.length_drop]; omega
    · have hw : 0 ≤ IntKind.u32.wrap v ∧ IntKind.u32.wrap v < 4294967296 := by rw [u32_wrap_eq]; omega
      obtain ⟨n, hn⟩ : ∃ n : Nat, IntKind.u32.wrap v = n := ⟨(IntKind.u32.wrap v).toNat, by omega⟩
      rw [hn]
      have hn2 : n < 4294967296 := by omega
      refine post_bind (P := fun x => RegOk x.1) (post_eq (Decode_is hN hn2) ?_) (fun x hx => post_br (fun _ => post_some noIns_ok) (fun _ => post_some hx))
      split
      · exact noIns_ok
      · exact insN_ok _ _
  · refine post_br (fun _ => hK _ (fun h => by simp at h)) (fun _ => post_br (fun _ => hK _ (fun h => by simp at h)) (fun h2 => hK _ (fun h3 => ?_)))
    have g2 := of_decide_eq_false h2
    have g3 := of_decide_eq_false h3
    have e1 : IntKind.i64.wrap ((img.length : Int) - 4) = (img.length : Int) - 4 := wrap64 (by omega) (by omega)
    rw [e1, wrapU64 (by omega) (by omega)] at g3
    omega

/-- register 0 is 0 -/
def R0 (l : List Int) : Prop := ∃ r, l = 0 :: r

theorem R0.set {l : List Int} (h : R0 l) {k : Nat} (hk : 0 < k) (v : Int) : R0 (setD 0 l k v) := by
  obtain ⟨r, rfl⟩ := h
  obtain ⟨k, rfl⟩ : ∃ j, k = j + 1 := ⟨k - 1, by omega⟩
  exact ⟨_, rfl⟩

theorem r0_start {l : List Int} (h : l ≠ []) : R0 (setD 0 l 0 0) := by
  cases l with
  | nil => exact absurd rfl h
  | cons x r => exact ⟨r, rfl⟩

theorem R0.start {l : List Int} (h : R0 l) : setD 0 l 0 0 = l := by
  obtain ⟨r, rfl⟩ := h; rfl

abbrev HartT := Int × List Int × Int
abbrev DoneT := Int × Ins × Int × Int × Int × Int × Int × Bool

/-- what a step leaves -/
def HOk (h : HartT) : Prop := R0 h.2.1 ∧ 0 ≤ h.1 ∧ h.1 < 18446744073709551616

theorem step_t (hN : 100 ≤ N) {h : HartT} (h0 : 0 ≤ h.1) (h1 : h.1 < 18446744073709551616) (hr : h.2.1 ≠ []) (rd : Int) (f : Bool) {img : List Int} (hl : img.length ≤ 1024) :
    Post (F29 N h rd f img) (fun v => HOk v.1) := by
  have hs := r0_start hr
  unfold F29 R29
  refine post_br (fun _ => post_some ⟨hs, h0, h1⟩) (fun _ => ?_)
  refine post_bind (fetch_t hN h0 h1 hl) (fun y0 hi => ?_)
  refine post_jp All (fun y1 _ => ?_) (fun K hK => ?_)
  · refine post_br (fun _ => post_some ⟨hs, h0, h1⟩) (fun _ => ?_)
    refine post_jp All (fun y2 _ => ?_) (fun K hK => ?_)
    · refine post_jp All (fun y3 _ => ?_) (fun K hK => ?_)
      · refine post_jp All (fun y4 _ => ?_) (fun K hK => ?_)
        · refine post_chk (reg1 hi) (post_chk (reg2 hi) (post_bind (next_t _ _ _ _) (fun y5 h5 => ?_)))
          refine post_jp (fun y6 => R0 y6.1.2.1) (fun y6 h6 => post_some ⟨h6, h5⟩) (fun K hK => ?_)
          refine post_bind (target_t hN _) (fun y8 h8 => post_br (fun h => ?_) (fun _ => hK _ hs))
          have hp := of_decide_eq_true h
          refine post_bind (value_t hN _ hi _ _) (fun y9 _ => post_chk ?_ (hK _ (hs.set (by omega) _)))
          rw [Bool.and_eq_true]; exact ⟨decide_eq_true h8.1, decide_eq_true (by show y8 < ((32 : Nat) : Int); omega)⟩
        · refine post_jp All (fun y11 _ => post_br (fun _ => post_chk (reg2 hi) (post_bind (stored_t hN _ _ _) (fun _ _ => hK _ trivial))) (fun _ => hK _ trivial)) (fun K' hK' => ?_)
          exact post_bind (stores_t hN _) (fun _ _ => post_br (fun _ => hK' _ trivial) (fun _ => hK' _ trivial))
      · exact post_br (fun _ => post_bind (sort_t hN _) (fun _ _ => hK _ trivial)) (fun _ => hK _ trivial)
    · exact post_bind (loads_t hN _) (fun _ _ => post_br (fun _ => post_bind (size_t hN _) (fun _ _ => post_bind (zext_t _ _) (fun _ _ => hK _ trivial))) (fun _ => hK _ trivial))
  · exact post_br (fun _ => post_bind (halts_t hN _ hi _) (fun _ _ => hK _ trivial)) (fun _ => hK _ trivial)

/-- a hart that has halted stays -/
theorem step_halted (N : Nat) {h : HartT} (hc : h.2.2 ≠ 0) (h0 : R0 h.2.1) (rd : Int) (f : Bool) (img : List Int) :
    F29 N h rd f img = some (h, (0, noIns, 0, 0, 0, 0, 0, false)) := by
  unfold F29 R29
  rw [br_true (by rw [decide_eq_false hc]; rfl), h0.start]
  rfl

/-- a hart that comes in -/
theorem hart_wf {h : HartT} (g : (Ty.pair (.int .u64) (.pair (.arr 32 (.int .u64)) (.int .i64))).wf h) : 0 ≤ h.1 ∧ h.1 < 18446744073709551616 ∧ h.2.1 ≠ [] := by
  obtain ⟨g1, ⟨g2, _⟩, _⟩ := g
  have g1' : (Lit.int .u64 h.1).wf = true := g1
  simp only [Lit.wf, IntKind.min, IntKind.max, IntKind.signed, IntKind.bits, Bool.and_eq_true, decide_eq_true_eq] at g1'
  refine ⟨by simpa using g1'.1, ?_, ?_⟩
  · have := g1'.2; simp at this; omega
  · intro e
    have g2' : h.2.1.length = 32 := g2
    rw [e] at g2'
    simp at g2'

end Go.Proofs.YtkcfkegkhopakaaGreatDoor
