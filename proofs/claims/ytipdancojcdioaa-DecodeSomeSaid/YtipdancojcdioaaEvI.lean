/- Each operation of the evaluator against the loaded one (five): slices, append, copy, calls. -/
import Derived.Test.YtipdancojcdioaaEvH
namespace Go.Ev
set_option linter.unusedVariables false
set_option linter.unusedSimpArgs false
open Go

section
variable {P : Program} {a : Act} {o : Oper} {j : JM} {H H' : Heap} {w : World} {e : Env} {v : AV} {callF : CallF}

theorem opt_sound (hE : ER j e a.tmps) {x : Option Operand} {y : Option Opd} (h : cOpt x = some y) :
    (x = none ∧ y = none) ∨ ∃ u v, x = some u ∧ y = some v ∧ cOpd u = some v := by
  cases x with
  | none => simp only [cOpt, Option.some.injEq] at h; exact .inl ⟨rfl, h.symm⟩
  | some u => simp only [cOpt, Option.map_eq_some_iff] at h; obtain ⟨v, h1, rfl⟩ := h; exact .inr ⟨u, v, rfl, rfl, h1⟩

theorem natOf_sound {u : AV} {n : Nat} {c : Value} (hu : natOf u = some n) (hv : VR j u c) : ∃ k, c = .int k (n : Int) := by
  cases u <;> simp only [natOf] at hu <;> (try simp at hu; done)
  obtain ⟨hp, hu⟩ := bif_some hu
  simp only [decide_eq_true_eq] at hp
  obtain rfl := Option.some.inj hu
  simp only [VR] at hv
  exact ⟨_, by rw [hv]; congr 1; omega⟩

theorem bound_sound (hE : ER j e a.tmps) {x : Option Operand} {y : Option Opd} (h : cOpt x = some y) {d n : Nat} (hb : bound e d y = some n) :
    (x = none ∧ n = d) ∨ ∃ u k, x = some u ∧ a.eval u = .int k (n : Int) := by
  rcases opt_sound hE h with ⟨rfl, rfl⟩ | ⟨u, v, rfl, rfl, huv⟩
  · simp only [bound, Option.some.injEq] at hb; exact .inl ⟨rfl, hb.symm⟩
  · simp only [bound] at hb
    split at hb
    · rename_i x hx
      obtain ⟨k, hk⟩ := natOf_sound hb (opd_sound hE huv hx)
      exact .inr ⟨u, k, rfl, hk⟩
    · simp at hb

theorem run_sliceBound (k : IntKind) (n y : Nat) (c : BoundsCode) (h : n ≤ y) : (Instr.sliceBound (.int k (n : Int)) y c).run P w = .ok n w := by
  have h1 : (0 : Int) ≤ n ∧ (n : Int) ≤ y := ⟨by omega, by omega⟩
  simp [Instr.sliceBound, asIntOf, h1]

/-- the three bounds of a slice expression -/
theorem run_sliceBounds (hE : ER j e a.tmps) (isSl : Bool) {lo hi mx : Option Operand} {lo' hi' mx' : Option Opd} (h1 : cOpt lo = some lo') (h2 : cOpt hi = some hi') (h3 : cOpt mx = some mx')
    {len cap l hh : Nat} (hl : bound e 0 lo' = some l) (hhi : bound e len hi' = some hh) (hlh : l ≤ hh) (hc : hh ≤ cap)
    (hm : (mx = none) ∨ ∃ m k, hi ≠ none ∧ m ≤ cap ∧ hh ≤ m ∧ ∃ u, mx = some u ∧ a.eval u = .int k (m : Int)) :
    ∃ m, (Instr.sliceBounds isSl len cap (lo.map a.eval) (hi.map a.eval) (mx.map a.eval)).run P w = .ok (l, hh, m) w ∧
      ((mx = none ∧ m = cap) ∨ (hh ≤ m ∧ m ≤ cap ∧ ∃ u k, mx = some u ∧ a.eval u = .int k (m : Int))) := by
  rcases hm with rfl | ⟨m, km, hhne, hmc, hhm, u, rfl, hu⟩
  · refine ⟨cap, ?_, .inl ⟨rfl, rfl⟩⟩
    unfold Instr.sliceBounds
    rcases bound_sound hE h2 hhi with ⟨rfl, rfl⟩ | ⟨v, k, rfl, hv⟩
    · rcases bound_sound hE h1 hl with ⟨rfl, rfl⟩ | ⟨v', k', rfl, hv'⟩
      · simp
      · simp [hv', run_sliceBound _ _ _ _ hlh]
    · rcases bound_sound hE h1 hl with ⟨rfl, rfl⟩ | ⟨v', k', rfl, hv'⟩
      · simp [hv, run_sliceBound _ _ _ _ hc]
      · simp [hv, hv', run_sliceBound _ _ _ _ hc, run_sliceBound _ _ _ _ hlh]
  · refine ⟨m, ?_, .inr ⟨hhm, hmc, u, km, rfl, hu⟩⟩
    unfold Instr.sliceBounds
    rcases bound_sound hE h2 hhi with ⟨rfl, rfl⟩ | ⟨v, k, rfl, hv⟩
    · exact absurd rfl hhne
    · rcases bound_sound hE h1 hl with ⟨rfl, rfl⟩ | ⟨v', k', rfl, hv'⟩
      · simp [hu, hv, run_sliceBound _ _ _ _ hmc, run_sliceBound _ _ _ _ hhm]
      · simp [hu, hv, hv', run_sliceBound _ _ _ _ hmc, run_sliceBound _ _ _ _ hhm, run_sliceBound _ _ _ _ hlh]

theorem does_slice {t : TypeId} {x : Operand} {lo hi mx : Option Operand} {p : AOp} (ho : o.op = .slice t x lo hi mx) (hc : cOp P (.slice t x lo hi mx) = some p) (hw : WR j H w) (hE : ER j e a.tmps)
    (hr : p.run callF e H = some (v, H')) : Does P a o j H w v H' := by
  simp only [cOp, Option.bind_eq_some_iff] at hc
  obtain ⟨xa, hxa, lo', hlo, hi', hhi, mx', hmx, hc⟩ := hc
  unfold cSlice at hc
  split at hc
  · simp at hc
  rename_i hne
  simp only [Bool.and_eq_true, not_and, Bool.not_eq_true] at hne
  have hine : mx ≠ none → hi ≠ none := by
    intro h1 h2
    rcases opt_sound hE hmx with ⟨rfl, _⟩ | ⟨u, v, rfl, rfl, _⟩
    · exact h1 rfl
    · subst h2
      simp only [cOpt, Option.some.injEq] at hhi
      subst hhi
      simp at hne
  split at hc
  · -- the address of an array
    rename_i n el hun
    simp only [Option.map_eq_some_iff] at hc
    obtain ⟨s, hs, rfl⟩ := hc
    obtain ⟨u, hu, h1⟩ := on1_some hr
    have hv := opd_sound hE hxa hu
    cases u <;> (try simp at h1; done)
    rename_i b off
    obtain ⟨hlive, h1⟩ := bif_some h1
    obtain ⟨loc, hl, he⟩ := hv
    split at hlive
    · rename_i cs hcs
      simp only [decide_eq_true_eq] at hlive
      obtain ⟨loc', hl', _, hext, _⟩ := hw.cell b cs hcs
      rw [hl] at hl'
      obtain rfl := Option.some.inj hl'
      have fin : ∀ (l hh m : Nat), l ≤ hh → hh ≤ m → m ≤ n → 0 < s → (Instr.sliceBounds false n n (lo.map a.eval) (hi.map a.eval) (mx.map a.eval)).run P w = .ok (l, hh, m) w →
          v = .sl b (off + l * s) (hh - l) (some (m - l)) s → H' = H → Does P a o j H w v H' := by
        rintro l hh m h2 h3 h4 h5 hrun rfl rfl
        have hmul : l * s + (m - l) * s ≤ n * s := by
          rw [← Nat.add_mul]
          exact Nat.mul_le_mul_right _ (by omega)
        by_cases hml : m = l
        · subst hml
          refine Does.pure (c := .slice (some ⟨loc.blk, loc.off + off, none⟩) (hh - m) (m - m)) hw ⟨loc, m - m, hl, by omega, by omega, by simp, .inr ⟨by omega, _, by rfl⟩⟩ ?_
          simp [execOp, ho, he, Instr.sliceAt, run_underlying hun, Instr.sureAddr, hrun, run_sizeOf hs]
        · refine Does.pure (c := .slice (some ⟨loc.blk, loc.off + (off + l * s), none⟩) (hh - l) (m - l)) hw ⟨loc, m - l, hl, by omega, by omega, by simp, .inl rfl⟩ ?_
          simp [execOp, ho, he, Instr.sliceAt, run_underlying hun, Instr.sureAddr, hrun, run_sizeOf hs, hml, add_lit, Nat.add_assoc]
      split at h1
      · rename_i l hh hl1 hh1 hmq
        obtain ⟨hb, h1⟩ := bif_some h1
        simp only [Bool.and_eq_true, decide_eq_true_eq] at hb
        simp only [Option.some.injEq, Prod.mk.injEq] at h1
        rcases opt_sound hE hmx with ⟨rfl, _⟩ | ⟨u, v, _, h', _⟩
        · obtain ⟨m, hrun, ⟨_, rfl⟩ | ⟨_, _, u, k, h', _⟩⟩ := run_sliceBounds (P := P) (w := w) (cap := n) hE false hlo hhi hmx hl1 hh1 hb.1.1 hb.1.2 (.inl rfl)
          · exact fin l hh _ hb.1.1 hb.1.2 (Nat.le_refl _) hb.2 hrun h1.1.symm h1.2.symm
          · simp at h'
        · simp at h'
      · rename_i l hh mo hl1 hh1 hmq
        split at h1
        · rename_i m hm1
          obtain ⟨hb, h1⟩ := bif_some h1
          simp only [Bool.and_eq_true, decide_eq_true_eq] at hb
          simp only [Option.some.injEq, Prod.mk.injEq] at h1
          rcases bound_sound hE hmx hm1 with ⟨rfl, _⟩ | ⟨u, k, rfl, hu'⟩
          · simp only [cOpt, Option.some.injEq] at hmx; simp at hmx
          · obtain ⟨m', hrun, ⟨h', _⟩ | ⟨_, _, u', k', h', hu''⟩⟩ := run_sliceBounds (P := P) (w := w) (cap := n) hE false hlo hhi hmx hl1 hh1 hb.1.1.1 (by omega) (.inr ⟨m, k, hine (by simp), by omega, by omega, u, rfl, hu'⟩)
            · simp at h'
            · simp only [Option.some.injEq] at h'
              subst h'
              rw [hu'] at hu''
              simp only [Value.int.injEq] at hu''
              have : m' = m := by omega
              subst this
              exact fin l hh m' hb.1.1.1 hb.1.1.2 hb.1.2 hb.2 hrun h1.1.symm h1.2.symm
        · simp at h1
      · simp at h1
    · simp at hlive
  · -- a string
    rename_i hun
    obtain ⟨hmn, hc⟩ := if_some hc
    obtain rfl := Option.some.inj hc
    rcases opt_sound hE hmx with ⟨rfl, _⟩ | ⟨u, v, _, h', _⟩
    case inr => subst h'; simp at hmn
    obtain ⟨u, hu, h1⟩ := on1_some hr
    have hv := opd_sound hE hxa hu
    cases u <;> (try simp at h1; done)
    rename_i st
    simp only at h1
    split at h1
    · rename_i l hh hl1 hh1
      obtain ⟨hb, h1⟩ := bif_some h1
      simp only [Bool.and_eq_true, decide_eq_true_eq] at hb
      simp only [Option.some.injEq, Prod.mk.injEq] at h1
      obtain ⟨rfl, rfl⟩ := h1
      simp only [VR] at hv
      obtain ⟨m, hrun, _⟩ := run_sliceBounds (P := P) (w := w) hE false hlo hhi hmx hl1 hh1 hb.1 hb.2 (.inl rfl)
      simp only [Option.map_none] at hrun
      refine Does.pure (c := .string ⟨((st.drop l).take (hh - l)).toArray⟩) hw (by simp only [VR]) ?_
      have hex : (ByteArray.mk st.toArray).extract l hh = ⟨((st.drop l).take (hh - l)).toArray⟩ := by
        apply ByteArray.ext
        simp [ByteArray.data_extract]
      have hsz : (ByteArray.mk st.toArray).size = st.length := by simp [ByteArray.size]
      simp only [execOp, ho, hv, Instr.sliceAt, Sem.run_bind, run_underlying hun, Result.andThen_ok, Instr.slice, Option.map_none, Option.isSome_none, Bool.false_eq_true, if_false, hsz, hrun, Sem.run_pure, hex]
    · simp at h1
  · -- a slice
    rename_i el hun
    simp only [Option.map_eq_some_iff] at hc
    obtain ⟨s, hs, rfl⟩ := hc
    obtain ⟨u, hu, h1⟩ := on1_some hr
    have hv := opd_sound hE hxa hu
    cases u <;> (try simp at h1; done)
    · -- nil
      simp only at h1
      simp only [VR] at hv
      have fin : ∀ m, (Instr.sliceBounds true 0 0 (lo.map a.eval) (hi.map a.eval) (mx.map a.eval)).run P w = .ok (0, 0, m) w → m = 0 → v = .nilsl → H' = H → Does P a o j H w v H' := by
        rintro m hrun rfl rfl rfl
        refine Does.pure (c := .slice none 0 0) hw rfl ?_
        simp [execOp, ho, hv, Instr.sliceAt, Instr.slice, run_underlying hun, hrun, run_sizeOf hs]
      split at h1
      · rename_i hl1 hh1
        simp only [Option.some.injEq, Prod.mk.injEq] at h1
        rcases opt_sound hE hmx with ⟨rfl, _⟩ | ⟨u, v, _, h', _⟩
        · obtain ⟨m, hrun, ⟨_, rfl⟩ | ⟨_, _, u, k, h', _⟩⟩ := run_sliceBounds (P := P) (w := w) (cap := 0) hE true hlo hhi hmx hl1 hh1 (Nat.le_refl _) (Nat.le_refl _) (.inl rfl)
          · exact fin _ hrun rfl h1.1.symm h1.2.symm
          · simp at h'
        · simp at h'
      · rename_i mo hl1 hh1
        split at h1
        · rename_i hm1
          simp only [Option.some.injEq, Prod.mk.injEq] at h1
          rcases bound_sound hE hmx hm1 with ⟨rfl, _⟩ | ⟨u, k, rfl, hu'⟩
          · simp only [cOpt, Option.some.injEq] at hmx; simp at hmx
          · obtain ⟨m', hrun, ⟨h', _⟩ | ⟨_, hle, _⟩⟩ := run_sliceBounds (P := P) (w := w) (cap := 0) hE true hlo hhi hmx hl1 hh1 (Nat.le_refl _) (Nat.le_refl _) (.inr ⟨0, k, hine (by simp), by omega, by omega, u, rfl, hu'⟩)
            · simp at h'
            · exact fin _ hrun (by omega) h1.1.symm h1.2.symm
        · simp at h1
      · simp at h1
    · rename_i b off ln cap z
      simp only at h1
      obtain ⟨loc, cap', hl, hle, hext, hex, he⟩ := hv
      have fin : ∀ (l hh m : Nat) (mo : Option Nat), (Instr.sliceBounds true ln cap' (lo.map a.eval) (hi.map a.eval) (mx.map a.eval)).run P w = .ok (l, hh, m) w → (∀ k, mo = some k → m = k) → (mo = none → m = cap') →
          pureR H (sliceOf s b off ln cap z l hh mo) = some (v, H') → Does P a o j H w v H' := by
        intro l hh m mo hrun hk hnone hsl
        obtain ⟨hs2, rfl⟩ := pureR_some hsl
        unfold sliceOf at hs2
        obtain ⟨hb, hs3⟩ := bif_some hs2
        simp only [Bool.and_eq_true, decide_eq_true_eq, Nat.beq_eq] at hb
        obtain ⟨⟨⟨⟨h2, h3⟩, h4⟩, rfl⟩, h6⟩ := hb
        obtain rfl := Option.some.inj hs3
        have hm : hh ≤ m ∧ m ≤ cap' := by
          cases mo with
          | none => have := hnone rfl; omega
          | some k => have := hk k rfl; simp only [Bool.and_eq_true, decide_eq_true_eq] at h4; omega
        have hmul : l * z + (m - l) * z ≤ cap' * z := by
          rw [← Nat.add_mul]
          exact Nat.mul_le_mul_right _ (by omega)
        have hcapk : ∀ q, capAfter cap mo l = some q → m - l = q := by
          intro q hq
          unfold capAfter at hq
          cases mo with
          | some k => have := hk k rfl; simp at hq; omega
          | none =>
            cases cap with
            | none => simp at hq
            | some c => have h7 := hex c rfl; have h8 := hnone rfl; simp at hq; omega
        have hrunop : ∀ ad, a.eval x = .slice (some ad) ln cap' → (execOp a.eval o).run P w = .ok (.value (.slice (some (if m = l then ad else ad.add (l * z))) (hh - l) (m - l))) w := by
          intro ad had
          by_cases hml : m = l <;> simp [execOp, ho, had, Instr.sliceAt, Instr.slice, run_underlying hun, hrun, run_sizeOf hs, hml]
        by_cases hml : m = l
        · subst hml
          rcases he with he | ⟨_, ad, he⟩
          · exact Does.pure hw ⟨loc, m - m, hl, by omega, by omega, hcapk, .inr ⟨by omega, _, rfl⟩⟩ (by rw [hrunop _ he, if_pos rfl])
          · exact Does.pure hw ⟨loc, m - m, hl, by omega, by omega, hcapk, .inr ⟨by omega, _, rfl⟩⟩ (by rw [hrunop _ he, if_pos rfl])
        · rcases he with he | ⟨h0, ad, he⟩
          · refine Does.pure (c := .slice (some ⟨loc.blk, loc.off + (off + l * z), none⟩) (hh - l) (m - l)) hw ⟨loc, m - l, hl, by omega, by omega, hcapk, .inl rfl⟩ ?_
            rw [hrunop _ he, if_neg hml, add_lit, Nat.add_assoc]
          · omega
      split at h1
      · rename_i l hh hl1 hh1
        have hsl := h1
        obtain ⟨h1, _⟩ := pureR_some h1
        unfold sliceOf at h1
        obtain ⟨hb, _⟩ := bif_some h1
        simp only [Bool.and_eq_true, decide_eq_true_eq, Nat.beq_eq] at hb
        rcases opt_sound hE hmx with ⟨rfl, _⟩ | ⟨u, v, _, h', _⟩
        · obtain ⟨m, hrun, ⟨_, rfl⟩ | ⟨_, _, u, k, h', _⟩⟩ := run_sliceBounds (P := P) (w := w) (cap := cap') hE true hlo hhi hmx hl1 hh1 hb.1.1.1.1 (by omega) (.inl rfl)
          · exact fin l hh _ none hrun (by simp) (fun _ => rfl) hsl
          · simp at h'
        · simp at h'
      · rename_i l hh mo hl1 hh1
        split at h1
        · rename_i m hm1
          have hsl := h1
          obtain ⟨h1, _⟩ := pureR_some h1
          unfold sliceOf at h1
          obtain ⟨hb, _⟩ := bif_some h1
          simp only [Bool.and_eq_true, decide_eq_true_eq, Nat.beq_eq] at hb
          rcases bound_sound hE hmx hm1 with ⟨rfl, _⟩ | ⟨u, k, rfl, hu'⟩
          · simp only [cOpt, Option.some.injEq] at hmx; simp at hmx
          · obtain ⟨m', hrun, ⟨h', _⟩ | ⟨_, hle', u', k', h', hu''⟩⟩ := run_sliceBounds (P := P) (w := w) (cap := cap') hE true hlo hhi hmx hl1 hh1 hb.1.1.1.1 (by omega) (.inr ⟨m, k, hine (by simp), by omega, by omega, u, rfl, hu'⟩)
            · simp at h'
            · simp only [Option.some.injEq] at h'
              subst h'
              rw [hu'] at hu''
              simp only [Value.int.injEq] at hu''
              exact fin l hh m' (some m) hrun (by intro k hk; simp at hk; omega) (by simp) hsl
        · simp at h1
      · simp at h1
  · simp at hc

end
end Go.Ev
