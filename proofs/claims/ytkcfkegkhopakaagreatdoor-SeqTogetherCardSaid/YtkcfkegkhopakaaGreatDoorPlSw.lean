/- What a hart does alone, and its memory then, are the document's: the loops side by side. No condition beyond the inputs'. -/
import Derived.Test.YtkcfkegkhopakaaGreatDoorPlSv
namespace Go.Proofs.YtkcfkegkhopakaaGreatDoor
open Go Go.Ev Go.Sh
set_option linter.unusedVariables false
set_option linter.unusedSimpArgs false
set_option maxRecDepth 100000

abbrev AloneT := HartT × List Int × List DoneT

section
variable {N : Nat} (hN : 100 ≤ N) {k : Nat} (hk : k ≤ 75)
include hN hk

omit hk in
theorem ref_ahead {ρ : Type} {ad : Nat} {mem : List Int} {at' sz : Int} {fl : Bool} (hfl : fl = (!decide (at' = (ad : Int)) || !decide (sz = (siz k : Int)))) (hL : mem.length ≤ 1024) (hB : BY mem)
    (hW : F79 N (k : Int) ad mem.length = some (whr k ad mem.length)) (B : Int × Bool → Option ρ) :
    jp B (fun K20 => jp (fun (y21 : Bool) => br y21
 (chk (decide (0 ≤ IntKind.i64.wrap (ad : Int)) && decide (0 ≤ IntKind.i64.wrap (IntKind.i64.wrap (ad : Int) + (siz k : Int))) && (IntKind.i64.wrap (ad : Int)).toNat.ble (IntKind.i64.wrap (IntKind.i64.wrap (ad : Int) + (siz k : Int))).toNat && (IntKind.i64.wrap (IntKind.i64.wrap (ad : Int) + (siz k : Int))).toNat.ble mem.length) (bindS (F60 N ((List.take ((IntKind.i64.wrap (IntKind.i64.wrap (ad : Int) + (siz k : Int))).toNat - (IntKind.i64.wrap (ad : Int)).toNat) (List.drop (0 + (IntKind.i64.wrap (ad : Int)).toNat) mem)))) (fun (y22 : Int) => br (!decide (at' = IntKind.i64.wrap (ad : Int)))
 (K20 ((y22, true)))
 (K20 ((y22, !decide (sz = (siz k : Int))))))))
 (K20 ((0, false))))
 (fun K23 => br (decide (0 < (siz k : Int)))
 (bindS (F79 N (k : Int) ad ((↑mem.length : Int))) (fun (y24 : Int) => K23 (decide (y24 = 0))))
 (K23 false))) = B (rdA k ad mem fl) := by
  have hs := siz_cases k
  unfold rdA
  simp only [jp_eq]
  rw [hW, bindS_some]
  by_cases h0 : siz k = 0
  · rw [brF (by omega), br_f, if_neg (by omega)]
  · rw [brT (by omega)]
    by_cases hw : whr k ad mem.length = 0
    · have hle := whr0 hw h0
      have e1 : IntKind.i64.wrap (ad : Int) = ad := i64N (by omega)
      have e2 : IntKind.i64.wrap ((ad : Int) + (siz k : Int)) = ((ad + siz k : Nat) : Int) := by rw [wrap64 (by omega) (by omega)]; omega
      rw [br_true (decide_eq_true hw), e1, e2, Int.toNat_natCast, Int.toNat_natCast, chk_true (sl_chk hle), Nat.add_sub_cancel_left, Nat.zero_add, rOf_full hN ((hB.drop ad).take _) (by rw [List.length_take]; omega), bindS_some, if_pos ⟨h0, hw⟩, hfl]
      by_cases h1 : at' = (ad : Int)
      · rw [decide_eq_true h1]; rfl
      · rw [decide_eq_false h1]; rfl
    · rw [br_false (decide_eq_false hw), if_neg (fun h => hw h.2)]

def atA (k ad : Nat) (a : Int) : Int := if srt k = 10 then (ad : Int) else if srt k = 11 then -1 else a
def szA (k : Nat) (z : Int) : Int := if srt k = 10 then (siz k : Int) else z

theorem ref_behind {ρ : Type} {L ad w : Nat} {fl : Bool} {mem : List Int} (hml : mem.length = L) (hL : L ≤ 1024) (hd : siz k ≠ 0 → whr k ad L = 0) (at' sz : Int) (h' : HartT) (out : List DoneT) (K5 : Int × Int × HartT × List Int × List DoneT → Option ρ) :
    jp (fun (y12 : Int × Int) => jp (fun (y13 : Int) => jp (fun (y14 : Bool) => br y14
 (fixN N (fun again15 (y16 : Int × List Int) => br (decide (y16.1 < (siz k : Int)))
 (chk (decide (0 ≤ IntKind.u64.wrap (IntKind.i64.wrap (8 * y16.1)))) (chk (decide (0 ≤ IntKind.i64.wrap (IntKind.i64.wrap (ad : Int) + y16.1)) && decide (IntKind.i64.wrap (IntKind.i64.wrap (ad : Int) + y16.1) < (↑y16.2.length : Int))) (again15 ((IntKind.i64.wrap (y16.1 + 1), y16.2.set (IntKind.i64.wrap (IntKind.i64.wrap (ad : Int) + y16.1)).toNat (IntKind.u8.wrap ((w : Int).fdiv (2 ^ Min.min (IntKind.u64.wrap (IntKind.i64.wrap (8 * y16.1))).toNat IntKind.u64.bits))))))))
 (K5 ((y13, (y12.2, (h', (y16.2, out)))))))
 ((0, mem)))
 (K5 ((y13, (y12.2, (h', (mem, out)))))))
 (fun K17 => br (decide (srt k = 5))
 (K17 true)
 (br (decide (srt k = 12))
 (K17 true)
 (br (decide (srt k = 11))
 (K17 (!fl))
 (K17 false)))))
 (fun K18 => br (decide (srt k = 11))
 (K18 (-1))
 (K18 y12.1)))
 (fun K19 => br (decide (srt k = 10))
 (K19 ((IntKind.i64.wrap (ad : Int), (siz k : Int))))
 (K19 ((at', sz)))) = K5 (atA k ad at', (szA k sz, (h', (memA k ad w fl mem, out)))) := by
  have hs := siz_cases k
  have hsz := srt_siz hk
  have wr : siz k ≠ 0 → ∀ G : Int × List Int → Option ρ, fixN N (fun again15 (y16 : Int × List Int) => br (decide (y16.1 < (siz k : Int)))
 (chk (decide (0 ≤ IntKind.u64.wrap (IntKind.i64.wrap (8 * y16.1)))) (chk (decide (0 ≤ IntKind.i64.wrap (IntKind.i64.wrap (ad : Int) + y16.1)) && decide (IntKind.i64.wrap (IntKind.i64.wrap (ad : Int) + y16.1) < (↑y16.2.length : Int))) (again15 ((IntKind.i64.wrap (y16.1 + 1), y16.2.set (IntKind.i64.wrap (IntKind.i64.wrap (ad : Int) + y16.1)).toNat (IntKind.u8.wrap ((w : Int).fdiv (2 ^ Min.min (IntKind.u64.wrap (IntKind.i64.wrap (8 * y16.1))).toNat IntKind.u64.bits))))))))
 (G y16)) ((0, mem)) = G ((siz k : Int), wrb mem ad w (siz k)) := by
    intro h0 G
    have hle := whr0 (hd h0) h0
    have e1 : IntKind.i64.wrap (ad : Int) = ad := i64N (by omega)
    rw [e1]
    exact ref_wr hN (by omega) (by omega) (by omega) G
  have ha : siz k ≠ 0 → IntKind.i64.wrap (ad : Int) = (ad : Int) := fun h0 => by
    have hle := whr0 (hd h0) h0
    rw [i64N (by omega)]
  simp only [jp_eq]
  unfold atA szA memA
  obtain h | h | h | h | h | h | h | h | h | h | h | h | h := srt_cases k
  all_goals first
    | (rw [h]; rfl)
    | skip
  · have h0 := hsz (by omega)
    rw [h]
    exact wr h0 (fun y16 => K5 ((at', (sz, (h', (y16.2, out))))))
  · have h0 := hsz (by omega)
    rw [h, ha h0]
    rfl
  · have h0 := hsz (by omega)
    rw [h]
    cases fl
    · exact wr h0 (fun y16 => K5 ((-1, (sz, (h', (y16.2, out))))))
    · rfl
  · have h0 := hsz (by omega)
    rw [h]
    exact wr h0 (fun y16 => K5 ((at', (sz, (h', (y16.2, out))))))
end

def QA (L : Nat) (a b : Option AloneT) : Prop := ∃ v, a = some v ∧ b = some v ∧ v.2.1.length = L ∧ v.2.2.length ≤ 300
theorem QA.of {L : Nat} {a a' b b' : Option AloneT} (h1 : a = a') (h2 : b = b') (h : QA L a' b') : QA L a b := by rw [h1, h2]; exact h

structure RelA (most : Int) (L m n : Nat) (p : Int) (X : List Int) (ma ms at' sz : Int) (held : Bool) (out : List DoneT) (mem : List Int) : Prop where
  nm : n + m = most.toNat
  up : UU p
  rg : RG X
  len : X.length = 32
  r0 : R0 X
  ml : mem.length = L
  by_ : BY mem
  ol : out.length ≤ n
  res : (held = true ∧ ma = at' ∧ ms = sz ∧ 0 ≤ at') ∨ (held = false ∧ at' = -1)

theorem clone_is (N : Nat) {l : List Int} (h : l.length ≤ 1024) : F85 N l = some l := by
  unfold F85
  cases l with
  | nil =>
    rw [br_true (by rfl)]
    unfold both
    rw [if_pos (by rfl)]
  | cons x r => rw [br_false (decide_eq_false (by simp only [List.length_cons]; omega)), chk_true (decide_eq_true (by simp only [List.length_nil, lim]; omega))]; rfl

theorem alone_same {N : Nat} (hN0 : 1100 ≤ N) {p : Int} (hp : UU p) {X : List Int} (hX : RG (setD 0 X 0 0)) (hlen : X.length = 32) (c0 : Int) {img : List Int} (hl : img.length ≤ 1024) (hB : BY img) {most : Int} (hm : most ≤ 300) :
    QA img.length (F31 N (p, X, c0) most img) (F32 N (p, X, c0) most img) := by
  have hN : 100 ≤ N := by omega
  have hY0 : R0 (setD 0 X 0 0) := r0_start (fun e => by rw [e] at hlen; simp at hlen)
  have hYl : (setD 0 X 0 0).length = 32 := by rw [setD_eq _ _ _ (by omega), List.length_set, hlen]
  unfold F31 R31 F32 R32
  simp only
  generalize setD 0 X 0 0 = Y at hX hY0 hYl ⊢
  have e0 : (if (100000 : Int) < most then (100000 : Int) else most) = most := if_neg (by omega)
  rw [clone_is N hl, bindS_some, jp_eq, chk_true (decide_eq_true (by simp only [lim]; omega)), jp_eq, br_false (decide_eq_false (by omega))]
  simp only [e0]
  refine fixN_sim (fun m (s : Int × HartT × Int × Int × Bool × List DoneT × List Int) (t : Int × Int × Int × AloneT) => ∃ (n : Nat) (p : Int) (X : List Int) (c0 ma ms at' sz : Int) (held : Bool) (out : List DoneT) (mem : List Int),
    s = ((n : Int), ((p, X, c0), (ma, (ms, (held, (out, mem)))))) ∧ t = (at', (sz, ((n : Int), ((p, X, c0), (mem, out))))) ∧ RelA most img.length m n p X ma ms at' sz held out mem) (QA img.length) ?_ N most.toNat _ _ (by omega)
    ⟨0, p, Y, c0, 0, 0, -1, 0, false, [], img, rfl, rfl, ⟨by omega, hp, hX, hYl, hY0, rfl, hB, Nat.le_refl _, Or.inr ⟨rfl, rfl⟩⟩⟩
  clear hp hX hYl hY0 hlen
  rintro m s t a b ⟨n, p, X, c0, ma, ms, at', sz, held, out, mem, rfl, rfl, r⟩ ih
  obtain ⟨hnm, hp, hX, hlen, h0, hml, hmb, hol, hres⟩ := r
  simp only
  have fin : ∀ c : Int, QA img.length (some ((p, X, c), (mem, out))) (some ((p, X, c), (mem, out))) := fun c => ⟨_, rfl, rfl, hml, by simp only; omega⟩
  by_cases hn : (n : Int) < most
  · rw [if_pos (show most > 0 by omega), brT hn]
    by_cases hc : c0 = 0
    · subst hc
      obtain ⟨p, hp1, rfl⟩ := hp.nat
      obtain ⟨i, c, e1, e2, e3⟩ := Fetch_is hN hp1 hl hB
      have hcc : c = 0 ∨ i.1 = 0 := by
        rcases e3 with ⟨h, _⟩ | ⟨h, _⟩
        · right; rw [h]; rfl
        · exact Or.inl h
      obtain ⟨k, rest, hk, rfl, hreg⟩ := e3.op
      have hck : c = 0 ∨ k = 0 := by
        rcases hcc with h | h
        · exact Or.inl h
        · right; have : (k : Int) = 0 := h; omega
      have t := siz_ok hN hk
      have hsz := siz_cases k
      obtain ⟨a0, ha1, ha2⟩ := rg_get hX rest.2.1.toNat
      obtain ⟨ad, had, had2⟩ := Address_nat hN ((k : Int), rest) ha1
      have hA : AdOk N k rest X img.length ad := ⟨had, by rw [ha2]; exact had2⟩
      have had3 : F78 N ((k : Int), rest) (X.getD rest.2.1.toNat 0) = some (ad : Int) := by rw [ha2]; exact (Address_eq hN hk rest (a0 : Int)).trans had2
      have hWr : F79 N (k : Int) ad mem.length = some (whr k ad mem.length) := (Where_eq hN hk had (by omega)).trans (Where_is hN hk had (by omega))
      obtain ⟨fl, hfl⟩ : ∃ fl : Bool, fl = (!decide (at' = (ad : Int)) || !decide (sz = (siz k : Int))) := ⟨_, rfl⟩
      have hah := ahead_is hN hk hreg e2 hck hA hml hl hmb ma ms held fl (by
        left
        rw [hfl]
        rcases hres with ⟨g1, g2, g3, g4⟩ | ⟨g1, g2⟩
        · rw [g1, g2, g3]; rfl
        · rw [g1, g2, decide_eq_false (by omega)]; rfl)
      have r1 : (decide (0 ≤ rest.2.1) && decide (rest.2.1 < (32 : Int))) = true := reg1 hreg
      have hfa := ref_ahead (ρ := AloneT) hN hfl (by omega) hmb hWr
      obtain ⟨rd, hrd⟩ : ∃ rd : Int × Bool, rdA k ad mem fl = rd := ⟨_, rfl⟩
      have hru : ∃ r : Nat, r < 18446744073709551616 ∧ rd.1 = r := by
        rw [← hrd]
        unfold rdA
        split
        · refine ⟨_, ?_, rfl⟩
          have h1 := ofN_lt ((hmb.drop ad).take (siz k))
          have h2 := pow256 (i := (List.take (siz k) (List.drop ad mem)).length) (by rw [List.length_take]; omega)
          omega
        · exact ⟨0, by decide, rfl⟩
      rw [hrd] at hah hfa
      obtain ⟨rd, fx⟩ := rd
      obtain ⟨r, hr1, rfl⟩ := hru
      obtain ⟨⟨⟨p', X', c'⟩, d⟩, hst, ⟨q1, q2, q3, q4⟩, q5, q6⟩ := step_p hN (u_nat hp1) hX hlen h0 (u_nat hr1) fx hl hk hreg e2 hA
      have hstR := (Step_eq hN hp1 (X := X) (by rw [h0.start]; exact hX) hr1 fx hl hB).trans hst
      have hol2 : decide ((out.length + [d].length) * 120 ≤ lim) = true := decide_eq_true (by simp only [List.length_cons, List.length_nil, lim]; omega)
      have wn : IntKind.i64.wrap ((n : Int) + 1) = ((n + 1 : Nat) : Int) := by rw [wrap64 (by omega) (by omega)]; omega
      simp only at q1 q2 q3 q4 q5 q6
      by_cases hc' : c' = 0
      · have hD := q6 hc'
        obtain ⟨w, hw1, hw⟩ := hD.wrote.nat
        refine QA.of (a' := a _) (b' := b _) ?_ ?_ (ih (m - 1) ((((n + 1 : Nat) : Int), ((p', X', c'), ((resA k ad (ma, ms, held)).1, ((resA k ad (ma, ms, held)).2.1, ((resA k ad (ma, ms, held)).2.2, (out ++ [d], memA k ad w fx mem)))))))
          (atA k ad at', (szA k sz, (((n + 1 : Nat) : Int), ((p', X', c'), (memA k ad w fx mem, out ++ [d]))))) (by omega) ⟨n + 1, p', X', c', _, _, _, _, _, _, _, rfl, rfl, ⟨by omega, q1, q2, q3, q4, ?_, ?_, by simp only [List.length_append, List.length_cons, List.length_nil]; omega, ?_⟩⟩)
        · rw [br_false (by rfl), hah, bindS_some]
          simp only
          rw [hst, bindS_some]
          simp only
          rw [behind_is hN hk hD (q5.trans hc') hw hml hl, bindS_some, chk_true hol2, wn]
        · rw [jp_eq]
          dsimp only
          rw [brT hn, br_true (decide_eq_true rfl), jp_eq]
          dsimp only
          rw [e1, bindS_some]
          dsimp only
          rw [t.sizR, bindS_some, chk_true r1, had3, bindS_some, hfa]
          simp only
          rw [hstR, bindS_some, chk_true hol2]
          simp only
          rw [br_false (by rw [q5, hc']; rfl), t.srtR, bindS_some, hw, wn]
          exact ref_behind hN hk hml hl (fun h => (hD.addr h).2) at' sz (p', X', c') (out ++ [d]) (fun y4 => b ((y4.1, (y4.2.1, (((n + 1 : Nat) : Int), (y4.2.2.1, (y4.2.2.2.1, y4.2.2.2.2)))))))
        · unfold memA
          split
          · rename_i hs
            have h0 := srt_siz hk (by omega)
            rw [wrb_len (by rw [hml]; exact whr0 (hD.addr h0).2 h0), hml]
          · exact hml
        · unfold memA
          split
          · exact wrb_by hmb _ _ _
          · exact hmb
        · unfold resA atA szA
          by_cases h10 : srt k = 10
          · rw [if_pos h10, if_pos h10, if_pos h10]
            exact Or.inl ⟨rfl, rfl, rfl, by omega⟩
          · rw [if_neg h10, if_neg h10, if_neg h10]
            by_cases h11 : srt k = 11
            · rw [if_pos h11, if_pos h11]
              exact Or.inr ⟨rfl, rfl⟩
            · rw [if_neg h11, if_neg h11]
              exact hres
      · refine QA.of (a' := a _) (b' := b _) ?_ ?_ (ih (m - 1) ((((n + 1 : Nat) : Int), ((p', X', c'), (ma, (ms, (held, (out ++ [d], mem)))))))
          (at', (sz, (((n + 1 : Nat) : Int), ((p', X', c'), (mem, out ++ [d]))))) (by omega) ⟨n + 1, p', X', c', _, _, _, _, _, _, _, rfl, rfl, ⟨by omega, q1, q2, q3, q4, hml, hmb, by simp only [List.length_append, List.length_cons, List.length_nil]; omega, hres⟩⟩)
        · have hbe : F87 N d ma ms held mem = some (ma, ms, held, mem) := by
            unfold F87 R87
            rw [br_true (by rw [q5, decide_eq_false hc']; rfl)]
          rw [br_false (by rfl), hah, bindS_some]
          simp only
          rw [hst, bindS_some]
          simp only
          rw [hbe, bindS_some, chk_true hol2, wn]
        · rw [jp_eq]
          dsimp only
          rw [brT hn, br_true (decide_eq_true rfl), jp_eq]
          dsimp only
          rw [e1, bindS_some]
          dsimp only
          rw [t.sizR, bindS_some, chk_true r1, had3, bindS_some, hfa]
          simp only
          rw [hstR, bindS_some, chk_true hol2]
          simp only
          rw [br_true (by rw [q5, decide_eq_false hc']; rfl), wn]
    · rw [br_true (by rw [decide_eq_false hc]; rfl), jp_eq]
      dsimp only
      rw [brT hn, br_false (decide_eq_false hc)]
      exact fin c0
  · rw [br_false (decide_eq_false (by split <;> omega)), jp_eq]
    dsimp only
    rw [brF hn, br_f]
    exact fin c0
end Go.Proofs.YtkcfkegkhopakaaGreatDoor
