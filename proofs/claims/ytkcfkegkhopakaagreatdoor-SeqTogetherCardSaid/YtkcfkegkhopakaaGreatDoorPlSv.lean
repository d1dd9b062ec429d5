/- What a hart does alone, and its memory then, are the document's. No condition beyond the inputs'. -/
import Derived.Test.YtkcfkegkhopakaaGreatDoorPlSu
namespace Go.Proofs.YtkcfkegkhopakaaGreatDoor
open Go Go.Ev Go.Sh
set_option linter.unusedVariables false
set_option linter.unusedSimpArgs false
set_option maxRecDepth 100000

/-- two loops side by side -/
theorem fixN_sim {σ τ ρ ρ' : Type} {F : (σ → Option ρ) → σ → Option ρ} {G : (τ → Option ρ') → τ → Option ρ'} (Rel : Nat → σ → τ → Prop) (Q : Option ρ → Option ρ' → Prop)
    (step : ∀ m s t a b, Rel m s t → (∀ m' s' t', m' < m → Rel m' s' t' → Q (a s') (b t')) → Q (F a s) (G b t)) : ∀ n m s t, m < n → Rel m s t → Q (fixN n F s) (fixN n G t)
  | 0, m, _, _, h, _ => by omega
  | n + 1, m, s, t, h, hr => step m s t _ _ hr fun m' s' t' hm h' => fixN_sim Rel Q step n m' s' t' (by omega) h'

/-! ### a word's bytes -/
def byl (w n : Nat) : List Int := (List.range n).map fun j => ((w / 256 ^ j % 256 : Nat) : Int)
theorem byl_len (w n : Nat) : (byl w n).length = n := by simp [byl]
theorem byl_succ (w n : Nat) : byl w (n + 1) = byl w n ++ [((w / 256 ^ n % 256 : Nat) : Int)] := by
  simp [byl, List.range_succ]
theorem byl_by (w n : Nat) : BY (byl w n) := by
  intro x hx
  simp only [byl, List.mem_map] at hx
  obtain ⟨j, _, rfl⟩ := hx
  omega
theorem u8N' (n : Nat) : IntKind.u8.wrap (n : Int) = ((n % 256 : Nat) : Int) := by rw [u8_wrap_eq]; omega

theorem Bytes_full {N : Nat} (hN : 100 ≤ N) {w n : Nat} (hn : n ≤ 8) : F67 N w n = some (byl w n) := by
  unfold F67
  have e : (if (8 : Int) < (n : Int) then (8 : Int) else (n : Int)) = (n : Int) := if_neg (by omega)
  simp only [e]
  refine fixN_ind (fun m (y : Int × Int × List Int) => ∃ i : Nat, i + m = n ∧ y = (((w / 256 ^ i : Nat) : Int), ((i : Int), byl w i))) (fun _ o => o = some (byl w n)) ?_ N n _ (by omega) ⟨0, by omega, by simp [byl]⟩
  rintro m y again ⟨i, hi, rfl⟩ ih
  simp only
  rcases Nat.eq_zero_or_pos m with h0 | h0
  · obtain rfl : i = n := by omega
    rw [brF (by omega)]
  · rw [brT (by omega), chk_true (decide_eq_true (by simp only [byl_len, List.length_cons, List.length_nil, lim]; omega)), show Min.min 8 IntKind.u64.bits = 8 from rfl, fdivN, wrap64 (by omega) (by omega), u8N']
    refine ih (m - 1) _ (by omega) ⟨i + 1, by omega, ?_⟩
    rw [byl_succ, show (w / 256 ^ i / 2 ^ 8) = w / 256 ^ (i + 1) by rw [Nat.div_div_eq_div_mul, show (2 : Nat) ^ 8 = 256 from rfl, ← Nat.pow_succ]]
    simp only [Prod.mk.injEq, and_true, true_and]
    omega

/-- memory with a word's bytes at a place -/
def wrb (mem : List Int) (a w n : Nat) : List Int := mem.take a ++ (byl w n ++ mem.drop (a + n))
theorem wrb_len {mem : List Int} {a w n : Nat} (h : a + n ≤ mem.length) : (wrb mem a w n).length = mem.length := by
  unfold wrb
  simp only [List.length_append, List.length_take, List.length_drop, byl_len]
  omega
theorem wrb_by {mem : List Int} (hb : BY mem) (a w n : Nat) : BY (wrb mem a w n) := by
  intro x hx
  unfold wrb at hx
  simp only [List.mem_append] at hx
  rcases hx with h | h | h
  · exact hb.take _ x h
  · exact byl_by w n x h
  · exact hb.drop _ x h
theorem wrb_set {mem : List Int} {a w j : Nat} (h : a + j < mem.length) : (wrb mem a w j).set (a + j) ((w / 256 ^ j % 256 : Nat) : Int) = wrb mem a w (j + 1) := by
  unfold wrb
  have hl : (mem.take a ++ byl w j).length = a + j := by simp only [List.length_append, List.length_take, byl_len]; omega
  rw [← List.append_assoc, List.set_append_right _ _ (by omega), hl, Nat.sub_self, List.drop_eq_getElem_cons h, List.set_cons_zero, byl_succ]
  simp only [List.append_assoc, List.cons_append, List.nil_append]
  rw [Nat.add_assoc]

theorem ref_wr {ρ : Type} {N n ad w : Nat} (hN : 100 ≤ N) (hn : n ≤ 8) {mem : List Int} (hL : ad + n ≤ mem.length) (hlen : mem.length ≤ 1024) (G : Int × List Int → Option ρ) :
    fixN N (fun again (y16 : Int × List Int) => br (decide (y16.1 < (n : Int)))
 (chk (decide (0 ≤ IntKind.u64.wrap (IntKind.i64.wrap (8 * y16.1)))) (chk (decide (0 ≤ IntKind.i64.wrap ((ad : Int) + y16.1)) && decide (IntKind.i64.wrap ((ad : Int) + y16.1) < (↑y16.2.length : Int))) (again ((IntKind.i64.wrap (y16.1 + 1), y16.2.set (IntKind.i64.wrap ((ad : Int) + y16.1)).toNat (IntKind.u8.wrap ((w : Int).fdiv (2 ^ Min.min (IntKind.u64.wrap (IntKind.i64.wrap (8 * y16.1))).toNat IntKind.u64.bits))))))))
 (G y16)) (0, mem) = G ((n : Int), wrb mem ad w n) := by
  refine fixN_ind (fun m (y : Int × List Int) => ∃ i : Nat, i + m = n ∧ y = ((i : Int), wrb mem ad w i)) (fun _ o => o = G ((n : Int), wrb mem ad w n)) ?_ N n _ (by omega) ⟨0, by omega, by simp [wrb, byl]⟩
  rintro m y again ⟨i, hi, rfl⟩ ih
  simp only
  rcases Nat.eq_zero_or_pos m with h0 | h0
  · obtain rfl : i = n := by omega
    rw [brF (by omega)]
  · have e1 : IntKind.u64.wrap (IntKind.i64.wrap (8 * (i : Int))) = ((8 * i : Nat) : Int) := by rw [wrap64 (by omega) (by omega), wrapU64 (by omega) (by omega)]; omega
    have e2 : IntKind.i64.wrap ((ad : Int) + (i : Int)) = ((ad + i : Nat) : Int) := by rw [wrap64 (by omega) (by omega)]; omega
    have e3 : Min.min (8 * i) IntKind.u64.bits = 8 * i := Nat.min_eq_left (by show 8 * i ≤ 64; omega)
    have e4 : 2 ^ (8 * i) = 256 ^ i := by rw [Nat.pow_mul]
    rw [brT (by omega), e1, e2, Int.toNat_natCast, Int.toNat_natCast, e3, fdivN, u8N', e4, chk_true (decide_eq_true (by omega)), chk_true (by rw [Bool.and_eq_true, wrb_len (by omega)]; exact ⟨decide_eq_true (by omega), decide_eq_true (by omega)⟩), wrb_set (by omega), wrap64 (by omega) (by omega)]
    refine ih (m - 1) _ (by omega) ⟨i + 1, by omega, ?_⟩
    simp only [Prod.mk.injEq, and_true]
    omega

/-! ### ahead of an instruction, behind it -/
/-- what an instruction would read, whether it would fail -/
def rdA (k ad : Nat) (mem : List Int) (fl : Bool) : Int × Bool := if siz k ≠ 0 ∧ whr k ad mem.length = 0 then (((ofN (List.take (siz k) (List.drop ad mem)) : Nat) : Int), fl) else (0, false)

/-- the reservation behind an instruction, and the memory -/
def resA (k ad : Nat) (x : Int × Int × Bool) : Int × Int × Bool := if srt k = 10 then ((ad : Int), (siz k : Int), true) else if srt k = 11 then (x.1, x.2.1, false) else x
def memA (k ad w : Nat) (fl : Bool) (mem : List Int) : List Int := if srt k = 5 ∨ srt k = 12 ∨ (srt k = 11 ∧ fl = false) then wrb mem ad w (siz k) else mem

theorem sl_chk {ad n L : Nat} (h : ad + n ≤ L) : (decide ((0 : Int) ≤ (ad : Int)) && decide ((0 : Int) ≤ ((ad + n : Nat) : Int)) && Nat.ble ad (ad + n) && Nat.ble (ad + n) L) = true := by
  rw [decide_eq_true (by omega), decide_eq_true (by omega), Nat.ble_eq_true_of_le (by omega), Nat.ble_eq_true_of_le h]; rfl

section
variable {N : Nat} (hN : 100 ≤ N) {k : Nat} {rest : Rest} (hk : k ≤ 75) (hreg : RegOk ((k : Int), rest))
include hN hk

include hreg in
theorem ahead_is {p : Int} {X : List Int} {img mem : List Int} {c : Int} (hf : F27 N p img = some (((k : Int), rest), c)) (hc : c = 0 ∨ k = 0) {ad : Nat} (hA : AdOk N k rest X img.length ad) (hml : mem.length = img.length) (hL : img.length ≤ 1024) (hB : BY mem)
    (ma ms : Int) (held : Bool) (fl : Bool) (hfl : fl = (!held || (!decide (ma = (ad : Int)) || !decide (ms = (siz k : Int)))) ∨ ¬ (siz k ≠ 0 ∧ whr k ad mem.length = 0)) :
    F86 N (p, X, 0) ma ms held mem img = some (rdA k ad mem fl) := by
  have t := siz_ok hN hk
  have hs := siz_cases k
  unfold F86 R86 rdA
  have r1 : (decide (0 ≤ rest.2.1) && decide (rest.2.1 < (32 : Int))) = true := reg1 hreg
  simp only [hf, bindS_some, t.sizP, jp_eq]
  rw [chk_true r1, hA.is, bindS_some, Where_is hN hk hA.lt (by omega), bindS_some]
  by_cases h0 : siz k = 0
  · rw [if_neg (by omega)]
    have : br (decide ((siz k : Int) = 0)) (some ((0 : Int), false)) = fun b => some ((0 : Int), false) := by funext b; rw [brT (by omega)]
    by_cases hc0 : c = 0
    · rw [br_false (by rw [hc0]; rfl), brT (by omega), br_t]
    · rw [br_true (by rw [decide_eq_false hc0]; rfl), br_t]
  · have hc0 : c = 0 := by
      rcases hc with h | h
      · exact h
      · rw [h] at h0; exact absurd rfl h0
    rw [br_false (by rw [hc0]; rfl), brF (by omega)]
    by_cases hw : whr k ad mem.length = 0
    · have hle := whr0 hw h0
      have e1 : IntKind.i64.wrap (ad : Int) = ad := i64N (by omega)
      have e2 : IntKind.i64.wrap ((ad : Int) + (siz k : Int)) = ((ad + siz k : Nat) : Int) := by rw [wrap64 (by omega) (by omega)]; omega
      rw [br_false (by rw [hw]; rfl), e1, e2, Int.toNat_natCast, Int.toNat_natCast, chk_true (sl_chk hle), Nat.add_sub_cancel_left, Nat.zero_add, Of_full hN ((hB.drop ad).take _) (by rw [List.length_take]; omega), bindS_some, if_pos ⟨h0, hw⟩]
      rcases hfl with h | h
      · rw [h]
        cases held
        · rfl
        · by_cases h1 : ma = (ad : Int)
          · rw [decide_eq_true h1]; rfl
          · rw [decide_eq_false h1]; rfl
      · exact absurd ⟨h0, hw⟩ h
    · rw [if_neg (fun h => hw h.2), br_true (by rw [decide_eq_false hw]; rfl)]

omit hN in
theorem srt_siz (h : srt k = 4 ∨ srt k = 5 ∨ srt k = 10 ∨ srt k = 11 ∨ srt k = 12) : siz k ≠ 0 := by
  have := op_size hk
  intro h0
  rw [h0] at this
  rcases h with h | h | h | h | h <;> rw [h] at this <;> exact absurd this (by decide)

theorem behind_is {L ad : Nat} {fl : Bool} {d : DoneT} (hd : Dn k rest fl L ad d) (hc : d.2.2.1 = 0) {w : Nat} (hw : d.2.2.2.2.2.2.1 = (w : Int)) {mem : List Int} (hml : mem.length = L) (hL : L ≤ 1024) (ma ms : Int) (held : Bool) :
    F87 N d ma ms held mem = some ((resA k ad (ma, ms, held)).1, (resA k ad (ma, ms, held)).2.1, (resA k ad (ma, ms, held)).2.2, memA k ad w fl mem) := by
  have t := siz_ok hN hk
  have hs := siz_cases k
  have hsz := srt_siz hk
  unfold F87 R87
  rw [hc, br_false (by rfl), hd.inst]
  simp only [t.sizP, t.srtP, bindS_some, jp_eq, Stores_is hN, hd.fail, hw]
  have wr : siz k ≠ 0 → ∀ (A B : Int) (C : Bool), chk (decide (0 ≤ d.2.2.2.2.1) && true && d.2.2.2.2.1.toNat.ble mem.length && mem.length.ble mem.length) (bindS (F67 N (w : Int) (siz k : Int)) (fun (y4 : List Int) => some (A, (B, (C, List.take (0 + d.2.2.2.2.1.toNat) mem ++ (List.take (Min.min y4.length (mem.length - d.2.2.2.2.1.toNat)) y4 ++ List.drop (0 + d.2.2.2.2.1.toNat + Min.min y4.length (mem.length - d.2.2.2.2.1.toNat)) mem)))))) = some (A, (B, (C, wrb mem ad w (siz k)))) := by
    intro h0 A B C
    obtain ⟨h1, h2⟩ := hd.addr h0
    have hle := whr0 h2 h0
    rw [h1, Int.toNat_natCast, chk_true (by rw [decide_eq_true (by omega), Nat.ble_eq_true_of_le (by omega), Nat.ble_eq_true_of_le (Nat.le_refl _)]; rfl), Bytes_full hN (by omega), bindS_some, byl_len, Nat.min_eq_left (by omega), Nat.zero_add]
    unfold wrb
    rw [List.take_of_length_le (l := byl w (siz k)) (by rw [byl_len]; exact Nat.le_refl _)]
  have ha : siz k ≠ 0 → IntKind.i64.wrap d.2.2.2.2.1 = (ad : Int) := fun h0 => by
    obtain ⟨h1, h2⟩ := hd.addr h0
    have hle := whr0 h2 h0
    rw [h1, i64N (by omega)]
  unfold resA memA
  obtain h | h | h | h | h | h | h | h | h | h | h | h | h := srt_cases k
  all_goals first
    | (rw [h]; rfl)
    | skip
  · -- stores
    have h0 := hsz (by omega)
    rw [h]
    cases fl <;> exact wr h0 _ _ _
  · -- reserve
    have h0 := hsz (by omega)
    rw [h, ha h0]
    cases fl <;> rfl
  · -- conditional
    have h0 := hsz (by omega)
    rw [h]
    cases fl
    · exact wr h0 _ _ _
    · rfl
  · -- atomic
    have h0 := hsz (by omega)
    rw [h]
    cases fl <;> exact wr h0 _ _ _
end
end Go.Proofs.YtkcfkegkhopakaaGreatDoor
