/- A step: the program's and the document's are the same. No condition beyond the inputs'. -/
import Derived.Test.YtkcfkegkhopakaaGreatDoorPlSq
namespace Go.Proofs.YtkcfkegkhopakaaGreatDoor
open Go Go.Ev Go.Sh
set_option linter.unusedVariables false
set_option linter.unusedSimpArgs false
set_option maxRecDepth 100000

theorem FOk.op {i : Ins} {c : Int} (h : FOk i c) : ∃ (k : Nat) (rest : Rest), k ≤ 75 ∧ i = ((k : Int), rest) ∧ RegOk ((k : Int), rest) := by
  rcases h with ⟨h, _⟩ | ⟨_, n, k, h1, h2, h3, h4⟩
  · exact ⟨0, _, by omega, h, noIns_ok⟩
  · exact ⟨k, _, h2, h4, insN_ok n k⟩

set_option maxHeartbeats 4000000
theorem Step_eq {N : Nat} (hN : 100 ≤ N) {p : Nat} (hp : p < 18446744073709551616) {X : List Int} (hX : RG (setD 0 X 0 0)) {rd : Nat} (hrd : rd < 18446744073709551616) (f : Bool) {img : List Int} (hl : img.length ≤ 1024) (hb : BY img) :
    F30 N ((p : Int), X, 0) rd f img = F29 N ((p : Int), X, 0) rd f img := by
  obtain ⟨i, c, e1, e2, e3⟩ := Fetch_is hN hp hl hb
  unfold F30 R30 F29 R29
  simp only [e1, e2, bindS_some]
  generalize setD 0 X 0 0 = Y at *
  obtain ⟨k, rest, hk, rfl, hr⟩ := e3.op
  have t := siz_ok hN hk
  have r1 : (decide (0 ≤ rest.2.1) && decide (rest.2.1 < (32 : Int))) = true := reg1 hr
  have r2 : (decide (0 ≤ rest.2.2.1) && decide (rest.2.2.1 < (32 : Int))) = true := reg2 hr
  simp only [t.srtR, t.sizR, t.srtP, t.sizP, bindS_some, r1, r2, chk_true]
  obtain ⟨a, ha, ha2⟩ := rg_get hX rest.2.1.toNat
  obtain ⟨b, hb1, hb2⟩ := rg_get hX rest.2.2.1.toNat
  simp only [ha2, hb2]
  obtain ⟨ad, had, had2⟩ := Address_nat hN ((k : Int), rest) ha
  have had3 := (Address_eq hN hk rest (a : Int)).trans had2
  obtain ⟨e, he, _⟩ := where_t hN k ad img.length
  have he2 := (Where_eq hN hk had (n := img.length) (by omega)).trans he
  obtain ⟨NX, hnx⟩ : ∃ NX : Int → Int, ∀ z, F75 N ((k : Int), rest) z a b = some (NX z) := ⟨fun z => (F75 N ((k : Int), rest) z a b).getD 0, fun z => by obtain ⟨v, hv, _⟩ := next_t (N := N) ((k : Int), rest) z a b; simp only [hv, Option.getD_some]⟩
  have hnx2 := fun z => (Next_eq hN hk rest z ha hb1).trans (hnx z)
  obtain ⟨st, hst, _⟩ := stored_t hN k rd b
  have hst2 := (Stored_eq hN hk hrd hb1).trans hst
  obtain ⟨ld, hld, _⟩ := loaded_t hN k rd
  have hld2 := (Loaded_eq hN hk hrd).trans hld
  obtain ⟨RS, hrs⟩ : ∃ RS : Int → Int, ∀ z, F131 N ((k : Int), rest) z a b = some (RS z) := ⟨fun z => (F131 N ((k : Int), rest) z a b).getD 0, fun z => by obtain ⟨v, hv, _⟩ := result_t hN ((k : Int), rest) z a b; simp only [hv, Option.getD_some]⟩
  have hrs2 := fun z => (Result_eq hN hk rest z ha hb1).trans (hrs z)
  obtain ⟨tg, htg, htg2⟩ := target_t hN ((k : Int), rest)
  have htg3 := (rTarget_is hN ((k : Int), rest) (by show (k : Int) ≤ _; omega)).trans ((Target_is hN ((k : Int), rest)).symm.trans htg)
  have hsz := siz_cases k
  have ew : IntKind.i64.wrap (8 * (siz k : Int)) = ((8 * siz k : Nat) : Int) := by rw [wrap64 (by omega) (by omega)]; omega
  have hzx := Zext_full N hrd (k := 8 * siz k) (by omega)
  have hzx2 := rZext_is hN hrd (k := 8 * siz k) (by omega)
  have hsize := op_size hk
  have henv := op_env hk
  have hM : F123 N (k : Int) = some (decide ((0 : Int) < (siz k : Int))) := by
    unfold F123 R123; rw [t.sizP, bindS_some]
  have hchk : (decide (0 ≤ tg) && decide (tg < (32 : Int))) = true := by rw [Bool.and_eq_true]; exact ⟨decide_eq_true htg2.1, decide_eq_true (by omega)⟩
  have htp : decide (0 < tg) = !decide (tg = 0) := by
    by_cases h : tg = 0
    · rw [h]; rfl
    · rw [decide_eq_false h, decide_eq_true (by omega)]; rfl
  have hcc : c = 0 ∨ ((c = 3 ∨ c = 4) ∧ k = 0) := by
    rcases e3 with ⟨h, h2⟩ | ⟨h, _⟩
    · right
      refine ⟨h2, ?_⟩
      have : (k : Int) = 0 := congrArg (fun x : Ins => x.1) h
      omega
    · exact Or.inl h
  unfold F68 R68 F77 R77
  simp only [ew, hM, Loads_is hN, Stores_is hN, had2, had3, he, he2, hnx, hnx2, hst, hst2, hld, hld2, hrs, hrs2, htg, htg3, hzx, hzx2, bindS_some, r1, r2, chk_true, hsize, t.srtP, ha2, hb2]
  simp only [chk_true r1, chk_true r2, chk_true hchk, htp]
  clear had2 had3 he he2 hnx hnx2 hst hst2 hld hld2 hrs hrs2 htg htg3 hzx hzx2 hM t e1 e2
  generalize (((rd % 2 ^ (8 * siz k) : Nat)) : Int) = z
  have hbb : (decide (e = 4) && decide (e = 3)) = false := by
    by_cases h : e = 4
    · rw [decide_eq_false (p := e = 3) (by omega), Bool.and_false]
    · rw [decide_eq_false h]; rfl
  generalize decide (tg = 0) = bt
  generalize decide (e = 4) = b4 at *
  generalize decide (e = 3) = b3 at *
  rcases hcc with rfl | ⟨hc, rfl⟩
  · have hb5 : (decide ((k : Int) = 52) && decide ((k : Int) = 53)) = false := by
      by_cases h : (k : Int) = 52
      · rw [decide_eq_false (p := (k : Int) = 53) (by omega), Bool.and_false]
      · rw [decide_eq_false h]; rfl
    generalize decide ((k : Int) = 52) = b52 at *
    generalize decide ((k : Int) = 53) = b53 at *
    have hs := srt_cases k
    generalize srt (k : Int) = s at hs henv ⊢
    clear hsize
    rcases hs with rfl | rfl | rfl | rfl | rfl | rfl | rfl | rfl | rfl | rfl | rfl | rfl | rfl <;> cases b52 <;> cases b53 <;> first
      | (exact absurd henv (by decide))
      | (exact absurd hb5 (by decide))
      | (cases b4 <;> cases b3 <;> first | (exact absurd hbb (by decide)) | (cases f <;> cases bt <;> (show _ = _; kernel_rfl)))
  · rcases hc with rfl | rfl <;> rfl
end Go.Proofs.YtkcfkegkhopakaaGreatDoor
