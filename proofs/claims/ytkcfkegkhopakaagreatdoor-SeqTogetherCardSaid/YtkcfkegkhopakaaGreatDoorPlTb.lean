/- What a hart does alone is a chain of steps with the numbers that were read. No condition beyond the inputs'. -/
import Derived.Test.YtkcfkegkhopakaaGreatDoorPlTa
namespace Go.Proofs.YtkcfkegkhopakaaGreatDoor
open Go Go.Ev Go.Sh
set_option linter.unusedVariables false
set_option linter.unusedSimpArgs false
set_option maxRecDepth 100000

/-- steps, each with what is told of it -/
def ChainT (N : Nat) (img : List Int) : HartT → List DoneT → HartT → Prop
  | h, [], h' => h = h'
  | h, d :: l, h' => ∃ h1 : HartT, F29 N h d.2.2.2.2.2.1 d.2.2.2.2.2.2.2 img = some (h1, d) ∧ ChainT N img h1 l h'

theorem ChainT.snoc {N : Nat} {img : List Int} : ∀ {l : List DoneT} {h h' h2 : HartT} {d : DoneT}, ChainT N img h l h' → F29 N h' d.2.2.2.2.2.1 d.2.2.2.2.2.2.2 img = some (h2, d) → ChainT N img h (l ++ [d]) h2
  | [], h, h', h2, d, hc, hs => by
    have e : h = h' := hc
    subst e
    exact ⟨h2, hs, rfl⟩
  | x :: l, h, h', h2, d, ⟨h1, g1, g2⟩, hs => ⟨h1, g1, ChainT.snoc g2 hs⟩

structure RelB (most : Int) (L m n : Nat) (p : Int) (X : List Int) (out : List DoneT) (mem : List Int) : Prop where
  nm : n + m = most.toNat
  up : UU p
  rg : RG X
  len : X.length = 32
  r0 : R0 X
  ml : mem.length = L
  by_ : BY mem
  ol : out.length ≤ n

theorem alone_chain {N : Nat} (hN0 : 1100 ≤ N) {p : Int} (hp : UU p) {X : List Int} (hX : RG (setD 0 X 0 0)) (hlen : X.length = 32) (c0 : Int) {img : List Int} (hl : img.length ≤ 1024) (hB : BY img) {most : Int} (hm : most ≤ 300) :
    ∃ v : AloneT, F31 N (p, X, c0) most img = some v ∧ ChainT N img (p, setD 0 X 0 0, c0) v.2.2 v.1 ∧ v.2.2.length ≤ 300 := by
  have hN : 100 ≤ N := by omega
  have hY0 : R0 (setD 0 X 0 0) := r0_start (fun e => by rw [e] at hlen; simp at hlen)
  have hYl : (setD 0 X 0 0).length = 32 := by rw [setD_eq _ _ _ (by omega), List.length_set, hlen]
  unfold F31 R31
  simp only
  generalize setD 0 X 0 0 = Y at hX hY0 hYl ⊢
  have e0 : (if (100000 : Int) < most then (100000 : Int) else most) = most := if_neg (by omega)
  rw [clone_is N hl, bindS_some, jp_eq]
  simp only [e0]
  refine fixN_ind (fun m (s : Int × HartT × Int × Int × Bool × List DoneT × List Int) => ∃ (n : Nat) (p' : Int) (X' : List Int) (c' ma ms : Int) (held : Bool) (out : List DoneT) (mem : List Int),
    s = ((n : Int), ((p', X', c'), (ma, (ms, (held, (out, mem)))))) ∧ RelB most img.length m n p' X' out mem ∧ ChainT N img (p, Y, c0) out (p', X', c'))
    (fun _ o => ∃ v : AloneT, o = some v ∧ ChainT N img (p, Y, c0) v.2.2 v.1 ∧ v.2.2.length ≤ 300) ?_ N most.toNat _ (by omega)
    ⟨0, p, Y, c0, 0, 0, false, [], img, rfl, ⟨by omega, hp, hX, hYl, hY0, rfl, hB, Nat.le_refl _⟩, rfl⟩
  clear hX hYl hY0 hlen
  rintro m s again ⟨n, p', X', c', ma, ms, held, out, mem, rfl, r, hch⟩ ih
  obtain ⟨hnm, hp', hX, hlen, h0, hml, hmb, hol⟩ := r
  simp only
  have fin : ∃ v : AloneT, (some ((p', X', c'), (mem, out)) : Option AloneT) = some v ∧ ChainT N img (p, Y, c0) v.2.2 v.1 ∧ v.2.2.length ≤ 300 := ⟨_, rfl, hch, by simp only; omega⟩
  by_cases hn : (n : Int) < most
  · rw [if_pos (show most > 0 by omega), brT hn]
    by_cases hc : c' = 0
    · subst hc
      obtain ⟨p1, hp1, rfl⟩ := hp'.nat
      obtain ⟨i, c, e1, e2, e3⟩ := Fetch_is hN hp1 hl hB
      have hcc : c = 0 ∨ i.1 = 0 := by
        rcases e3 with ⟨h, _⟩ | ⟨h, _⟩
        · right; rw [h]; rfl
        · exact Or.inl h
      obtain ⟨k, rest, hk, rfl, hreg⟩ := e3.op
      have hck : c = 0 ∨ k = 0 := by
        rcases hcc with h | h
        · exact Or.inl h
        · right; have : (k : Int) = 0 := h; omega
      obtain ⟨a0, ha1, ha2⟩ := rg_get hX rest.2.1.toNat
      obtain ⟨ad, had, had2⟩ := Address_nat hN ((k : Int), rest) ha1
      have hA : AdOk N k rest X' img.length ad := ⟨had, by rw [ha2]; exact had2⟩
      have hsz := siz_cases k
      have hah := ahead_is hN hk hreg e2 hck hA hml hl hmb ma ms held _ (Or.inl rfl)
      obtain ⟨rd, hrd⟩ : ∃ rd : Int × Bool, rdA k ad mem (!held || (!decide (ma = (ad : Int)) || !decide (ms = (siz k : Int)))) = rd := ⟨_, rfl⟩
      have hru : ∃ r : Nat, r < 18446744073709551616 ∧ rd.1 = r := by
        rw [← hrd]
        unfold rdA
        split
        · refine ⟨_, ?_, rfl⟩
          have h1 := ofN_lt ((hmb.drop ad).take (siz k))
          have h2 := pow256 (i := (List.take (siz k) (List.drop ad mem)).length) (by rw [List.length_take]; omega)
          omega
        · exact ⟨0, by decide, rfl⟩
      rw [hrd] at hah
      obtain ⟨rd, fx⟩ := rd
      obtain ⟨r, hr1, rfl⟩ := hru
      obtain ⟨⟨⟨p2, X2, c2⟩, d⟩, hst, ⟨q1, q2, q3, q4⟩, q5, q6⟩ := step_p hN (u_nat hp1) hX hlen h0 (u_nat hr1) fx hl hk hreg e2 hA
      obtain ⟨v, hv, hv2⟩ := step_q hN hp1 hX hlen h0 hr1 fx hl hB
      have hst' : F29 N ((p1 : Int), X', 0) (r : Int) fx img = some ((p2, X2, c2), d) := hst
      rw [hst'] at hv
      obtain rfl := Option.some.inj hv
      have hch2 := hch.snoc hv2
      have hol2 : decide ((out.length + [d].length) * 120 ≤ lim) = true := decide_eq_true (by simp only [List.length_cons, List.length_nil, lim]; omega)
      have wn : IntKind.i64.wrap ((n : Int) + 1) = ((n + 1 : Nat) : Int) := by rw [wrap64 (by omega) (by omega)]; omega
      simp only at q1 q2 q3 q4 q5 q6
      by_cases hc' : c2 = 0
      · have hD := q6 hc'
        obtain ⟨w, hw1, hw⟩ := hD.wrote.nat
        rw [br_false (by rfl), hah, bindS_some]
        simp only
        rw [hst', bindS_some]
        simp only
        rw [behind_is hN hk hD (q5.trans hc') hw hml hl, bindS_some, chk_true hol2, wn]
        refine ih (m - 1) _ (by omega) ⟨n + 1, p2, X2, c2, _, _, _, _, _, rfl, ⟨by omega, q1, q2, q3, q4, ?_, ?_, by simp only [List.length_append, List.length_cons, List.length_nil]; omega⟩, hch2⟩
        · unfold memA
          split
          · rename_i hs
            have h0 := srt_siz hk (by omega)
            rw [wrb_len (by rw [hml]; exact whr0 (hD.addr h0).2 h0), hml]
          · exact hml
        · unfold memA
          split
          · exact wrb_by hmb _ _ _
          · exact hmb
      · have hbe : F87 N d ma ms held mem = some (ma, ms, held, mem) := by
          unfold F87 R87
          rw [br_true (by rw [q5, decide_eq_false hc']; rfl)]
        rw [br_false (by rfl), hah, bindS_some]
        simp only
        rw [hst', bindS_some]
        simp only
        rw [hbe, bindS_some, chk_true hol2, wn]
        exact ih (m - 1) _ (by omega) ⟨n + 1, p2, X2, c2, _, _, _, _, _, rfl, ⟨by omega, q1, q2, q3, q4, hml, hmb, by simp only [List.length_append, List.length_cons, List.length_nil]; omega⟩, hch2⟩
    · rw [br_true (by rw [decide_eq_false hc]; rfl)]
      exact fin
  · rw [br_false (decide_eq_false (by split <;> omega))]
    exact fin
end Go.Proofs.YtkcfkegkhopakaaGreatDoor
