/- A step that is done anew, with what was read and whether it failed, does the same. No condition beyond the inputs'. -/
import Derived.Test.YtkcfkegkhopakaaGreatDoorPlSx
namespace Go.Proofs.YtkcfkegkhopakaaGreatDoor
open Go Go.Ev Go.Sh
set_option linter.unusedVariables false
set_option linter.unusedSimpArgs false
set_option maxRecDepth 100000

theorem zext_mod (N : Nat) {x k : Nat} (hx : x < 18446744073709551616) (hk : k ≤ 64) : F70 N ((x % 2 ^ k : Nat) : Int) k = F70 N (x : Int) k := by
  have h := mod_lt2 x k
  have h2 := pow_le64 hk
  rw [Zext_full N (by omega) hk, Zext_full N hx hk, Nat.mod_mod]

theorem sext_mod (N : Nat) {x k : Nat} (hx : x < 18446744073709551616) (hk : k ≤ 64) : F127 N ((x % 2 ^ k : Nat) : Int) k = F127 N (x : Int) k := by
  have h := mod_lt2 x k
  have h2 := pow_le64 hk
  rcases Nat.eq_zero_or_pos k with h0 | h0
  · subst h0
    have hz := zext_mod N (k := 0) hx (by omega)
    unfold F127 R127
    simp only [jp_eq]
    rw [brT (by omega), br_t, br_t, hz, brT (by omega)]
  · rw [Sext_full N (by omega) h0 hk, Sext_full N hx h0 hk]
    unfold sx
    rw [Nat.mod_mod]

section
variable {N : Nat} (hN : 100 ≤ N) {k : Nat} (hk : k ≤ 75) {x : Nat} (hx : x < 18446744073709551616)
include hN hk hx

theorem loaded_mod : F130 N (k : Int) ((x % 2 ^ (8 * siz k) : Nat) : Int) = F130 N (k : Int) (x : Int) := by
  have t := siz_ok hN hk
  have hsz := siz_cases k
  have ew : IntKind.i64.wrap (8 * (siz k : Int)) = ((8 * siz k : Nat) : Int) := by rw [wrap64 (by omega) (by omega)]; omega
  unfold F130 R130
  rw [t.sizP, t.srtP]
  simp only [bindS_some, ew]
  rw [zext_mod N hx (by omega), sext_mod N hx (by omega)]

theorem stored_mod (b : Int) : F74 N (k : Int) ((x % 2 ^ (8 * siz k) : Nat) : Int) b = F74 N (k : Int) (x : Int) b := by
  have t := siz_ok hN hk
  have hsz := siz_cases k
  have ew : IntKind.i64.wrap (8 * (siz k : Int)) = ((8 * siz k : Nat) : Int) := by rw [wrap64 (by omega) (by omega)]; omega
  unfold F74 R74
  rw [t.sizP, t.srtP]
  simp only [bindS_some, ew]
  rw [sext_mod N hx (by omega)]

omit hx in
theorem stored_any (h : srt k ≠ 12) (u w b : Int) : F74 N (k : Int) u b = F74 N (k : Int) w b := by
  have t := siz_ok hN hk
  unfold F74 R74
  rw [t.sizP, t.srtP]
  simp only [bindS_some, jp_eq]
  rw [brF h, brF h]
end

/-- does it load? -/
def lds (k : Nat) : Bool := decide (srt k = 4) || (decide (srt k = 10) || decide (srt k = 12))
/-- what it is told to have read; whether it failed -/
def rdB (k rd : Nat) : Nat := if lds k = true then rd % 2 ^ (8 * siz k) else 0
def flB (k : Nat) (f : Bool) : Bool := f && decide (srt k = 11)

set_option maxHeartbeats 4000000
theorem step_rr {N : Nat} (hN : 100 ≤ N) {p : Nat} (hp : p < 18446744073709551616) {X : List Int} (hX : RG (setD 0 X 0 0)) {rd : Nat} (hrd : rd < 18446744073709551616) (f : Bool) {img : List Int} (hl : img.length ≤ 1024) (hb : BY img)
    {k : Nat} {rest : Rest} {c : Int} (hk : k ≤ 75) (hr : RegOk ((k : Int), rest)) (e2 : F27 N p img = some (((k : Int), rest), c)) :
    F29 N ((p : Int), X, 0) (rdB k rd : Nat) (flB k f) img = F29 N ((p : Int), X, 0) rd f img := by
  unfold F29 R29
  simp only [e2, bindS_some]
  generalize setD 0 X 0 0 = Y at *
  have t := siz_ok hN hk
  have r1 : (decide (0 ≤ rest.2.1) && decide (rest.2.1 < (32 : Int))) = true := reg1 hr
  have r2 : (decide (0 ≤ rest.2.2.1) && decide (rest.2.2.1 < (32 : Int))) = true := reg2 hr
  have hsz := siz_cases k
  have hm := mod_lt2 rd (8 * siz k)
  have hm2 := pow_le64 (k := 8 * siz k) (by omega)
  have ew : IntKind.i64.wrap (8 * (siz k : Int)) = ((8 * siz k : Nat) : Int) := by rw [wrap64 (by omega) (by omega)]; omega
  have hzx := Zext_full N hrd (k := 8 * siz k) (by omega)
  have hst : ∀ b, F74 N (k : Int) ((rdB k rd : Nat) : Int) b = F74 N (k : Int) (rd : Int) b := by
    intro b
    unfold rdB
    by_cases h : lds k = true
    · rw [if_pos h]; exact stored_mod hN hk hrd b
    · rw [if_neg h]
      exact stored_any hN hk (fun e => h (by unfold lds; rw [e]; rfl)) _ _ _
  unfold F77 R77
  simp only [ew, Loads_is hN, Stores_is hN, hst, t.srtP, t.sizP, bindS_some]
  by_cases h : lds k = true
  · have e : rdB k rd = rd % 2 ^ (8 * siz k) := if_pos h
    have hz2 : F70 N ((rdB k rd : Nat) : Int) ((8 * siz k : Nat) : Int) = F70 N (rd : Int) ((8 * siz k : Nat) : Int) := by rw [e]; exact zext_mod N hrd (by omega)
    have hl2 : F130 N (k : Int) ((rdB k rd : Nat) : Int) = F130 N (k : Int) (rd : Int) := by rw [e]; exact loaded_mod hN hk hrd
    rw [hz2, hl2]
    have hs : srt k ≠ 11 := by
      intro e; unfold lds at h; rw [e] at h; exact absurd h (by decide)
    have hf : flB k f = false := by unfold flB; rw [decide_eq_false hs, Bool.and_false]
    have h3 : (decide (srt (k : Int) = 4) || (decide (srt (k : Int) = 10) || decide (srt (k : Int) = 12))) = true := h
    rw [hf]
    simp only [h3, jp_eq, br_t, decide_eq_false hs]
    cases f <;> simp only [br_t, br_f]
  · have h3 : (decide (srt (k : Int) = 4) || (decide (srt (k : Int) = 10) || decide (srt (k : Int) = 12))) = false := by
      have : lds k = false := by simpa using h
      exact this
    simp only [h3, jp_eq, br_f]
    by_cases hs : srt (k : Int) = 11
    · have hf : flB k f = f := by unfold flB; rw [decide_eq_true hs, Bool.and_true]
      rw [hf]
    · have hf : flB k f = false := by unfold flB; rw [decide_eq_false hs, Bool.and_false]
      rw [hf]
      simp only [decide_eq_false hs, Bool.not_false, br_t]
      cases f <;> simp only [br_t, br_f]

theorem step_q {N : Nat} (hN : 100 ≤ N) {p : Nat} (hp : p < 18446744073709551616) {X : List Int} (hX : RG X) (hlen : X.length = 32) (h0 : R0 X) {rd : Nat} (hrd : rd < 18446744073709551616) (f : Bool) {img : List Int} (hl : img.length ≤ 1024) (hb : BY img) :
    ∃ v, F29 N ((p : Int), X, 0) rd f img = some v ∧ F29 N ((p : Int), X, 0) v.2.2.2.2.2.2.1 v.2.2.2.2.2.2.2.2 img = some v := by
  obtain ⟨i, c, _, e2, e3⟩ := Fetch_is hN hp hl hb
  obtain ⟨k, rest, hk, rfl, hreg⟩ := e3.op
  have T1 := step_rr hN hp (X := X) (by rw [h0.start]; exact hX) hrd f hl hb hk hreg e2
  obtain ⟨y, hy, _⟩ := halts_t hN ((p : Int), X, 0) hreg (img.length : Int)
  have t := siz_ok hN hk
  have hsz := siz_cases k
  have ew : IntKind.i64.wrap (8 * (siz k : Int)) = ((8 * siz k : Nat) : Int) := by rw [wrap64 (by omega) (by omega)]; omega
  have hzx := Zext_full N hrd (k := 8 * siz k) (by omega)
  -- behind the look at what halts
  have go : ∀ Y : DoneT, Y.2.2.1 ≠ 0 → (∀ r g, F29 N ((p : Int), X, 0) r g img = some (((p : Int), X, Y.2.2.1), Y)) → ∃ v, F29 N ((p : Int), X, 0) rd f img = some v ∧ F29 N ((p : Int), X, 0) v.2.2.2.2.2.2.1 v.2.2.2.2.2.2.2.2 img = some v :=
    fun Y _ h => ⟨_, h _ _, h _ _⟩
  by_cases hc : c = 0
  · by_cases hy0 : y.1 = 0
    · have key : Post (F29 N ((p : Int), X, 0) rd f img) (fun v => v.2.2.2.2.2.2.1 = ((rdB k rd : Nat) : Int) ∧ v.2.2.2.2.2.2.2.2 = flB k f) := by
        unfold F29 R29
        simp only
        rw [h0.start, e2, bindS_some, br_false (by rfl)]
        simp only
        rw [jp_eq, brT hc, hy, bindS_some]
        simp only
        rw [br_false (by rw [hy0]; rfl)]
        refine post_jp (fun y2 => y2.2.2.2.2.2.1 = ((rdB k rd : Nat) : Int)) (fun y2 h2 => ?_) (fun K hK => ?_)
        · refine post_jp (fun y3 => y3.2.2.2.2.2.1 = ((rdB k rd : Nat) : Int) ∧ y3.2.2.2.2.2.2.2 = flB k f) (fun y3 h3 => ?_) (fun K hK => ?_)
          · refine post_jp (fun y4 => y4.2.2.2.2.2.1 = ((rdB k rd : Nat) : Int) ∧ y4.2.2.2.2.2.2.2 = flB k f) (fun y4 h4 => ?_) (fun K hK => ?_)
            · refine post_chk (reg1 hreg) (post_chk (reg2 hreg) (post_bind (next_t _ _ _ _) (fun y5 h5 => ?_)))
              refine post_jp (fun y6 => y6.2.2.2.2.2.2.1 = ((rdB k rd : Nat) : Int) ∧ y6.2.2.2.2.2.2.2.2 = flB k f) (fun y6 h6 => post_some h6) (fun K hK => ?_)
              refine post_bind (target_t hN _) (fun y8 h8 => post_br (fun h => ?_) (fun _ => hK _ h4))
              have hp := of_decide_eq_true h
              refine post_bind (value_t hN _ hreg _ _) (fun y9 h9 => post_chk ?_ (hK _ h4))
              rw [Bool.and_eq_true]; exact ⟨decide_eq_true h8.1, decide_eq_true (by show y8 < ((32 : Nat) : Int); omega)⟩
            · refine post_jp All (fun y11 _ => post_br (fun _ => post_chk (reg2 hreg) (post_bind (stored_t hN _ _ _) (fun _ _ => hK _ h3))) (fun _ => hK _ h3)) (fun K' hK' => ?_)
              exact post_bind (stores_t hN _) (fun _ _ => post_br (fun _ => hK' _ trivial) (fun _ => hK' _ trivial))
          · refine post_br (fun hx => ?_) (fun hx => ?_)
            · refine post_bind (sort_t hN _) (fun y hy => hK _ ⟨h2, ?_⟩)
              simp only
              unfold flB
              rw [hx, hy]; rfl
            · refine hK _ ⟨h2, ?_⟩
              unfold flB
              rw [hx]; rfl
        · rw [Loads_is hN, bindS_some, t.sizP, bindS_some, ew, hzx, bindS_some]
          refine post_br (fun h => hK _ ?_) (fun h => hK _ ?_)
          · simp only
            unfold rdB
            rw [if_pos (show lds k = true from h)]
          · simp only
            unfold rdB
            rw [if_neg (show ¬ lds k = true by intro e; exact absurd (e.symm.trans h) (by decide))]; rfl
      obtain ⟨v, hv, h1, h2⟩ := key
      exact ⟨v, hv, by rw [h1, h2, T1]; exact hv⟩
    · refine go ((p : Int), ((k : Int), rest), y.1, 0, y.2, 0, 0, false) hy0 (fun r g => ?_)
      unfold F29 R29
      simp only
      rw [h0.start, e2, bindS_some, br_false (by rfl)]
      simp only
      rw [jp_eq, brT hc, hy, bindS_some]
      simp only
      rw [br_true (by rw [decide_eq_false hy0]; rfl)]
  · refine go ((p : Int), ((k : Int), rest), c, 0, 0, 0, 0, false) hc (fun r g => ?_)
    unfold F29 R29
    simp only
    rw [h0.start, e2, bindS_some, br_false (by rfl)]
    simp only
    rw [jp_eq, brF hc]
    simp only
    rw [br_true (by rw [decide_eq_false hc]; rfl)]
end Go.Proofs.YtkcfkegkhopakaaGreatDoor
