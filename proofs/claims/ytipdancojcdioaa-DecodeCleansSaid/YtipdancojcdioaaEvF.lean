/- Each operation of the evaluator against the loaded one (two). -/
import Derived.Test.YtipdancojcdioaaEvE
namespace Go.Ev
set_option linter.unusedVariables false
set_option linter.unusedSimpArgs false
open Go

section
variable {P : Program} {a : Act} {o : Oper} {j : JM} {H H' : Heap} {w : World} {e : Env} {v : AV} {callF : CallF}

theorem optLt_spec {a b : Option Int} (h : optLt a b = true) : ∃ x y, a = some x ∧ b = some y ∧ x < y := by
  cases a <;> cases b <;> simp [optLt] at h
  exact ⟨_, _, rfl, rfl, h⟩

theorem optLe_spec {a b : Option Int} (h : optLe a b = true) : ∃ x y, a = some x ∧ b = some y ∧ x ≤ y := by
  cases a <;> cases b <;> simp [optLe] at h
  exact ⟨_, _, rfl, rfl, h⟩

theorem lt_of_opt {m n : Int} {x y : Rng} (hx : InR m x) (hy : InR n y) (h : optLt x.2 y.1 = true) : m < n := by
  obtain ⟨a, b, h1, h2, h3⟩ := optLt_spec h
  have := hx.2 a h1
  have := hy.1 b h2
  omega

theorem le_of_opt {m n : Int} {x y : Rng} (hx : InR m x) (hy : InR n y) (h : optLe x.2 y.1 = true) : m ≤ n := by
  obtain ⟨a, b, h1, h2, h3⟩ := optLe_spec h
  have := hx.2 a h1
  have := hy.1 b h2
  omega

theorem cmpOf_sound {op : BinOp} {k k' : IntKind} {m n : Int} {x y : Rng} {b t : Bool} (hx : InR m x) (hy : InR n y) (h : binop op (.int k m) (.int k' n) = some (.bool b)) (hc : cmpOf op x y = some t) : b = t := by
  simp only [binop] at h
  cases op <;> simp only [cond_eq_ite] at h <;> (try split at h) <;> (try simp at h; done) <;> simp only [Option.some.injEq, AV.bool.injEq] at h <;> subst h <;> simp only [cmpOf, cond_eq_ite] at hc <;>
    (split at hc
     · rename_i h1
       obtain rfl := Option.some.inj hc
       first
        | (have := lt_of_opt hx hy h1; simp; omega)
        | (have := le_of_opt hx hy h1; simp; omega)
        | (have := lt_of_opt hy hx h1; simp; omega)
        | (have := le_of_opt hy hx h1; simp; omega)
        | (rw [Bool.or_eq_true] at h1; rcases h1 with h1 | h1
           · have := lt_of_opt hx hy h1; simp; omega
           · have := lt_of_opt hy hx h1; simp; omega)
     · split at hc
       · rename_i h1
         obtain rfl := Option.some.inj hc
         first
          | (have := lt_of_opt hx hy h1; simp; omega)
          | (have := le_of_opt hx hy h1; simp; omega)
          | (have := lt_of_opt hy hx h1; simp; omega)
          | (have := le_of_opt hy hx h1; simp; omega)
          | (rw [Bool.and_eq_true] at h1
             have := le_of_opt hx hy h1.1
             have := le_of_opt hy hx h1.2
             simp; omega)
       · simp at hc)

theorem wrap_fits {k : IntKind} {n : Int} (h1 : k.min ≤ n) (h2 : n ≤ k.max) : k.wrap n = n := by
  cases k <;> simp [IntKind.min, IntKind.max, IntKind.signed, IntKind.bits, IntKind.wrap] at h1 h2 ⊢ <;> (try split) <;> omega

theorem fitRng_sound {k : IntKind} {lo hi n : Int} (h1 : lo ≤ n) (h2 : n ≤ hi) : InR (k.wrap n) (fitRng k lo hi) := by
  unfold fitRng
  cases hb : decide (k.min ≤ lo) && decide (hi ≤ k.max) with
  | false => exact InR.none _
  | true =>
    simp only [Bool.and_eq_true, decide_eq_true_eq] at hb
    rw [wrap_fits (by omega) (by omega)]
    exact ⟨fun l hl => by simp at hl; omega, fun l hl => by simp at hl; omega⟩

theorem rngOf_sound {op : BinOp} {k k' kr : IntKind} {m n r : Int} {x y : Rng} (hx : InR m x) (hy : InR n y) (h : binop op (.int k m) (.int k' n) = some (.int kr r)) : InR r (rngOf op kr x y) := by
  unfold rngOf
  split
  · rename_i a b c d
    simp only [binop, cond_eq_ite] at h
    split at h <;> (try simp at h; done)
    simp only [Option.some.injEq, AV.int.injEq] at h
    obtain ⟨rfl, rfl⟩ := h
    have := hx.1 a rfl; have := hx.2 b rfl; have := hy.1 c rfl; have := hy.2 d rfl
    exact fitRng_sound (by omega) (by omega)
  · rename_i a b c d
    simp only [binop, cond_eq_ite] at h
    split at h <;> (try simp at h; done)
    simp only [Option.some.injEq, AV.int.injEq] at h
    obtain ⟨rfl, rfl⟩ := h
    have := hx.1 a rfl; have := hx.2 b rfl; have := hy.1 c rfl; have := hy.2 d rfl
    exact fitRng_sound (by omega) (by omega)
  · rename_i a b c d
    cases hb : decide (0 ≤ a) && decide (c = d) && decide (0 < c) with
    | false => exact InR.none _
    | true =>
      simp only [Bool.and_eq_true, decide_eq_true_eq] at hb
      simp only [binop, cond_eq_ite] at h
      split at h <;> (try simp at h; done)
      split at h <;> (try simp at h; done)
      simp only [Option.some.injEq, AV.int.injEq] at h
      obtain ⟨rfl, rfl⟩ := h
      have h1 := hx.1 a rfl; have h2 := hy.1 c rfl; have h3 := hy.2 d rfl
      have hn : n = c := by omega
      subst hn
      rw [Int.tmod_eq_emod_of_nonneg (by omega)]
      have := Int.emod_nonneg m (show n ≠ 0 by omega)
      have := Int.emod_lt_of_pos m (show 0 < n by omega)
      exact ⟨fun l hl => by simp at hl; omega, fun l hl => by simp at hl; omega⟩
  · exact InR.none _

theorem tell_sound {op : BinOp} {x y v : AV} {cx cy c : Value} (h : binop op x.plain y.plain = some v) (hx : VR j x cx) (hy : VR j y cy) (hv : VR j v c) : VR j (tell op v x.rng y.rng) c := by
  cases v <;> try exact hv
  · rename_i b
    simp only [tell]
    split
    · rename_i t ht
      cases hpx : x.plain <;> cases hpy : y.plain <;> rw [hpx, hpy] at h <;> (try simp [binop] at h; done)
      · obtain rfl := cmpOf_sound (hx.inR hpx) (hy.inR hpy) h ht
        exact hv
      · exfalso
        have e1 : x.rng = (none, none) := by cases x <;> simp [AV.plain] at hpx <;> rfl
        have e2 : y.rng = (none, none) := by cases y <;> simp [AV.plain] at hpy <;> rfl
        rw [e1, e2] at ht
        cases op <;> simp [cmpOf, optLt, optLe] at ht
    · exact hv
  · rename_i k n
    refine ⟨hv, ?_⟩
    cases hpx : x.plain <;> cases hpy : y.plain <;> rw [hpx, hpy] at h <;> (try simp [binop] at h; done)
    · exact rngOf_sound (hx.inR hpx) (hy.inR hpy) h
    · exfalso
      simp only [binop] at h
      cases op <;> simp only [cond_eq_ite] at h <;> (try split at h) <;> simp at h

theorem does_un {op : UnOp} {t : TypeId} {x : Operand} {p : AOp} (ho : o.op = .unOp op t x) (hc : cOp P (.unOp op t x) = some p) (hw : WR j H w) (hE : ER j e a.tmps)
    (hr : p.run callF e H = some (v, H')) : Does P a o j H w v H' := by
  simp only [cOp, Option.map_eq_some_iff] at hc
  obtain ⟨y, hy, rfl⟩ := hc
  obtain ⟨u, hu, h1⟩ := on1_some hr
  obtain ⟨h2, rfl⟩ := pureR_some h1
  unfold unopM at h2
  split at h2 <;> (try simp at h2; done)
  rename_i v0 h2'
  obtain rfl := Option.some.inj h2
  obtain ⟨d, hd, h3⟩ := unop_sound (P := P) (w := w) h2' (opd_sound hE hy hu).plain
  replace hd := hd.mark u.marked
  exact Does.pure hw hd (by simp [execOp, ho, h3])

theorem does_bin {op : BinOp} {t t' : TypeId} {x y : Operand} {p : AOp} (ho : o.op = .binOp op t x y t') (hc : cOp P (.binOp op t x y t') = some p) (hw : WR j H w) (hE : ER j e a.tmps)
    (hr : p.run callF e H = some (v, H')) : Does P a o j H w v H' := by
  simp only [cOp, Option.bind_eq_some_iff] at hc
  obtain ⟨xa, hxa, ya, hya, hc⟩ := hc
  have fin : ∀ c, VR j v c → H' = H → (do eqGuard op t x y (a.eval x) (a.eval y); Go.binOp op t (a.eval x) (a.eval y) : Sem Value).run P w = .ok c w → Does P a o j H w v H' := by
    intro c hv hH hrun
    subst hH
    refine Does.pure hw hv ?_
    simp only [execOp, ho]
    rw [Sem.run_bind, hrun]
    rfl
  have bincase : p = .bin op xa ya → Does P a o j H w v H' := by
    rintro rfl
    obtain ⟨u1, u2, h1, h2, h3⟩ := opt2_some hr
    obtain ⟨h4, hH⟩ := pureR_some h3
    unfold binopM at h4
    split at h4 <;> (try simp at h4; done)
    rename_i v0 h4'
    obtain rfl := Option.some.inj h4
    obtain ⟨c, hv, hrun⟩ := binop_sound (P := P) (w := w) (t := t) h4' (opd_sound hE hxa h1).plain (opd_sound hE hya h2).plain x y
    refine fin c ?_ hH hrun
    cases hm : u1.marked || u2.marked with
    | false => exact hv
    | true => exact tell_sound h4' (opd_sound hE hxa h1) (opd_sound hE hya h2) hv
  have eqcase : ∀ neg, ((op = .eql ∧ neg = false) ∨ (op = .neq ∧ neg = true)) → cEq P neg op t x y xa ya = some p → Does P a o j H w v H' := by
    intro neg hop hq
    unfold cEq at hq
    have nilcase : ∀ k, p = .eqN k neg xa ya → ((k = 0 ∧ ∃ e, P.underlying t = some (.pointer e)) ∨ (k = 1 ∧ ∃ e, P.underlying t = some (.slice e)) ∨ (k = 2 ∧ ∃ p q r, P.underlying t = some (.func p q r)) ∨
        (k = 3 ∧ ∃ m, P.underlying t = some (.interface m))) → (k = 3 → (isConstOpd x || isConstOpd y) = true) → Does P a o j H w v H' := by
      rintro k rfl ht hi
      obtain ⟨u1, u2, h1, h2, h3⟩ := opt2_some hr
      obtain ⟨b, h4, rfl, hH⟩ := pureB_some h3
      exact fin _ rfl hH (eqNil_sound h4 (opd_sound hE hxa h1) (opd_sound hE hya h2) x y hop ht hi)
    have aggcase : ∀ ks, P.eqGuardType P.depth t = false → flatN P 50 t = some ks → isAgg? P t = some true → p = .eqA ks neg xa ya → Does P a o j H w v H' := by
      rintro ks hgd hfl hag rfl
      obtain ⟨u1, u2, h1, h2, h3⟩ := opt2_some hr
      obtain ⟨h3', hH⟩ := pureR_some h3
      clear h3
      cases u1 <;> (try simp [eqAM] at h3'; done)
      cases u2 <;> (try simp [eqAM] at h3'; done)
      rename_i xs ys
      simp only [eqAM] at h3'
      obtain ⟨hlen, h3⟩ := bif_some h3'
      clear h3'
      simp only [Bool.and_eq_true, Nat.beq_eq] at hlen
      split at h3 <;> (try simp at h3; done)
      rename_i b h4
      obtain rfl := Option.some.inj h3
      obtain ⟨l, e1, hl⟩ := opd_sound hE hxa h1
      obtain ⟨m, e2, hm⟩ := opd_sound hE hya h2
      refine fin (.bool (b != neg)) (VR.mark _ rfl) hH ?_
      rw [e1, e2, Sem.run_bind, run_eqGuard_agg w op t x y _ _ hgd]
      have key := eqFlat (P := P) (w := w) 50 10000 t ks (by omega) hfl true hag (xs.map AV.plain) (ys.map AV.plain) l m b (by simpa using hlen.1) (by simpa using hlen.2) hl.plain hm.plain (eqCellsS_eqCells h4)
      simp only [val, if_true] at key
      rcases hop with ⟨rfl, rfl⟩ | ⟨rfl, rfl⟩
      · simp only [Result.andThen_ok, run_eql_struct, key]; simp
      · simp only [Result.andThen_ok, run_neq_struct, key]; simp
    split at hq
    · obtain rfl := Option.some.inj hq
      rename_i hu
      obtain ⟨u1, u2, h1, h2, h3⟩ := opt2_some hr
      have e1 := (opd_sound hE hxa h1).plain
      have e2 := (opd_sound hE hya h2).plain
      obtain ⟨h3', hH⟩ := pureR_some h3
      clear h3
      have h3 := h3'
      clear h3'
      unfold eqBM at h3
      split at h3 <;> (try simp at h3; done)
      rename_i p1 q1 hp1 hq1
      rw [hp1] at e1
      rw [hq1] at e2
      obtain rfl := Option.some.inj h3
      simp only [VR] at e1 e2
      refine fin (.bool ((p1 == q1) != neg)) (VR.mark _ rfl) hH ?_
      rw [e1, e2, eqGuard_at_bool]
      have := run_equalIn_bool' (P := P) w 9999 t
      rcases hop with ⟨rfl, rfl⟩ | ⟨rfl, rfl⟩ <;> simp [Go.binOp, Op.equal, Op.maxDepth, this _ _ hu]
    · exact bincase (Option.some.inj hq).symm
    · exact bincase (Option.some.inj hq).symm
    · rename_i e' hu; exact nilcase 0 (Option.some.inj hq).symm (.inl ⟨rfl, e', hu⟩) (by simp)
    · rename_i e' hu; exact nilcase 1 (Option.some.inj hq).symm (.inr (.inl ⟨rfl, e', hu⟩)) (by simp)
    · rename_i p' q' r' hu; exact nilcase 2 (Option.some.inj hq).symm (.inr (.inr (.inl ⟨rfl, p', q', r', hu⟩))) (by simp)
    · rename_i m' hu
      obtain ⟨hk, hq⟩ := if_some hq
      exact nilcase 3 (Option.some.inj hq).symm (.inr (.inr (.inr ⟨rfl, m', hu⟩))) (fun _ => hk)
    · rename_i fs hu
      split at hq
      · simp at hq
      · rename_i hgd
        simp only [Option.map_eq_some_iff] at hq
        obtain ⟨ks, hks, rfl⟩ := hq
        exact aggcase ks (by simpa using hgd) hks (by simp [isAgg?, hu]) rfl
    · rename_i n' e' hu
      split at hq
      · simp at hq
      · rename_i hgd
        simp only [Option.map_eq_some_iff] at hq
        obtain ⟨ks, hks, rfl⟩ := hq
        exact aggcase ks (by simpa using hgd) hks (by simp [isAgg?, hu]) rfl
    · simp at hq
  unfold cBin at hc
  split at hc
  · exact eqcase false (.inl ⟨rfl, rfl⟩) hc
  · exact eqcase true (.inr ⟨rfl, rfl⟩) hc
  · exact bincase (Option.some.inj hc).symm

theorem does_nilck {x : Operand} {p : AOp} (ho : o.op = .nilCheck x) (hc : cOp P (.nilCheck x) = some p) (hw : WR j H w) (hE : ER j e a.tmps)
    (hr : p.run callF e H = some (v, H')) : Does P a o j H w v H' := by
  simp only [cOp, Option.map_eq_some_iff] at hc
  obtain ⟨y, hy, rfl⟩ := hc
  obtain ⟨u, hu, h1⟩ := on1_some hr
  have hv := opd_sound hE hy hu
  cases u <;> simp at h1
  · obtain ⟨rfl, rfl⟩ := h1
    have hv0 := hv
    obtain ⟨loc, _, he⟩ := hv
    exact Does.pure hw (by rw [he] at hv0; exact hv0) (by simp [execOp, ho, he])
  · obtain ⟨rfl, rfl⟩ := h1
    have hv0 := hv
    obtain ⟨l, m, he, _⟩ := hv
    exact Does.pure hw (by rw [he] at hv0; exact hv0) (by simp [execOp, ho, he])

theorem does_faddr {s : TypeId} {x : Operand} {f : Nat} {p : AOp} (ho : o.op = .fieldAddr s x f) (hc : cOp P (.fieldAddr s x f) = some p) (hw : WR j H w) (hE : ER j e a.tmps)
    (hr : p.run callF e H = some (v, H')) : Does P a o j H w v H' := by
  simp only [cOp, Option.bind_eq_some_iff] at hc
  obtain ⟨fd, hf, n, hn, hc⟩ := hc
  obtain ⟨hpos, hc⟩ := if_some hc
  simp only [Option.map_eq_some_iff] at hc
  obtain ⟨y, hy, rfl⟩ := hc
  obtain ⟨u, hu, h1⟩ := on1_some hr
  have hv := opd_sound hE hy hu
  cases u <;> simp at h1
  obtain ⟨rfl, rfl⟩ := h1
  obtain ⟨loc, hl, he⟩ := hv
  refine Does.pure (c := .pointer (some ⟨loc.blk, loc.off + _, none⟩)) hw ⟨loc, hl, rfl⟩ ?_
  unfold field? at hf
  cases hun : P.underlying s with
  | none => simp [hun] at hf
  | some d =>
    cases d <;> simp [hun] at hf
    rename_i fs
    have hz : ¬ n = 0 := by omega
    simp [execOp, ho, he, Instr.fieldAt, run_underlying hun, hf, Instr.sureAddr, fieldPlace, run_sizeOf hn, hz, add_lit, Nat.add_assoc]

theorem does_iaddr {t : TypeId} {x i : Operand} {p : AOp} (ho : o.op = .indexAddr t x i) (hc : cOp P (.indexAddr t x i) = some p) (hw : WR j H w) (hE : ER j e a.tmps)
    (hr : p.run callF e H = some (v, H')) : Does P a o j H w v H' := by
  simp only [cOp] at hc
  split at hc
  · rename_i n el hun
    simp only [Option.bind_eq_some_iff, Option.map_eq_some_iff] at hc
    obtain ⟨s, hs, xa, hxa, ia, hia, rfl⟩ := hc
    obtain ⟨u1, u2, h1, h2, h3⟩ := opt2_some hr
    have e1 := opd_sound hE hxa h1
    have e2 := opd_sound hE hia h2
    cases u1 <;> (try simp at h3; done)
    cases u2 <;> (try simp at h3; done)
    obtain ⟨hb, h3⟩ := bif_some h3
    simp only [Bool.and_eq_true, decide_eq_true_eq] at hb
    simp only [Option.some.injEq, Prod.mk.injEq] at h3
    obtain ⟨rfl, rfl⟩ := h3
    obtain ⟨loc, hl, he⟩ := e1
    simp only [VR] at e2
    refine Does.pure (c := .pointer (some ⟨loc.blk, loc.off + _, none⟩)) hw ⟨loc, hl, rfl⟩ ?_
    simp [execOp, ho, he, e2, Instr.indexAt, asIntOf, run_underlying hun, Instr.sureAddr, hb, run_sizeOf hs, add_lit, Nat.add_assoc]
  · rename_i el hun
    simp only [Option.bind_eq_some_iff, Option.map_eq_some_iff] at hc
    obtain ⟨s, hs, xa, hxa, ia, hia, rfl⟩ := hc
    obtain ⟨u1, u2, h1, h2, h3⟩ := opt2_some hr
    have e1 := opd_sound hE hxa h1
    have e2 := opd_sound hE hia h2
    cases u1 <;> (try simp at h3; done)
    cases u2 <;> (try simp at h3; done)
    obtain ⟨hb, h3⟩ := bif_some h3
    simp only [Bool.and_eq_true, decide_eq_true_eq] at hb
    simp only [Option.some.injEq, Prod.mk.injEq] at h3
    obtain ⟨rfl, rfl⟩ := h3
    rename_i bb off ln cap size k n
    obtain ⟨loc, cap', hl, hle, _, _, he⟩ := e1
    simp only [VR] at e2
    have he' : a.eval x = .slice (some ⟨loc.blk, loc.off + off, none⟩) ln cap' := by
      rcases he with he | ⟨h0, _⟩
      · exact he
      · omega
    refine Does.pure (c := .pointer (some ⟨loc.blk, loc.off + _, none⟩)) hw ⟨loc, hl, rfl⟩ ?_
    simp [execOp, ho, he', e2, Instr.indexAt, asIntOf, run_underlying hun, hb, run_sizeOf hs, add_lit, Nat.add_assoc]
  · simp at hc

theorem part_sound {t : TypeId} {g : Bool} {n off : Nat} {cs : List AV} {l : List Value} {r : AV} (hg : isAgg? P t = some g) (hs : size? P t = some n) (hl : VRs j cs l) (h : partOf cs off n g = some r) :
    ∃ c, VR j r c ∧ (part t l.toArray off).run P w = .ok c w := by
  unfold partOf at h
  unfold part
  simp only [Sem.run_bind, run_isAgg hg, Result.andThen_ok]
  cases g with
  | true =>
    simp only [cond_true] at h
    obtain ⟨_, h⟩ := bif_some h
    obtain rfl := Option.some.inj h
    exact ⟨.agg ((l.drop off).take n).toArray, ⟨_, rfl, VRs.take _ (VRs.drop _ hl)⟩, by simp [run_sizeOf hs]⟩
  | false =>
    simp only [cond_false] at h
    obtain ⟨c, h1, h2⟩ := VRs.get hl off r h
    exact ⟨c, h2, by simp [h1]⟩

theorem does_field {s : TypeId} {x : Operand} {f : Nat} {p : AOp} (ho : o.op = .field s x f) (hc : cOp P (.field s x f) = some p) (hw : WR j H w) (hE : ER j e a.tmps)
    (hr : p.run callF e H = some (v, H')) : Does P a o j H w v H' := by
  simp only [cOp, Option.bind_eq_some_iff, Option.map_eq_some_iff] at hc
  obtain ⟨fd, hf, n, hn, g, hg, xa, hxa, rfl⟩ := hc
  obtain ⟨u, hu, h1⟩ := on1_some hr
  have hv := opd_sound hE hxa hu
  cases u <;> (try simp at h1; done)
  obtain ⟨h2, rfl⟩ := pureR_some h1
  obtain ⟨l, he, hl⟩ := hv
  obtain ⟨c, hc1, hc2⟩ := part_sound (P := P) (w := w) hg hn hl h2
  refine Does.pure hw hc1 ?_
  unfold field? at hf
  cases hun : P.underlying s with
  | none => simp [hun] at hf
  | some d =>
    cases d <;> simp [hun] at hf
    simp [execOp, ho, he, Instr.field, run_underlying hun, hf, asAgg, hc2]

theorem does_index {t : TypeId} {x i : Operand} {p : AOp} (ho : o.op = .index t x i) (hc : cOp P (.index t x i) = some p) (hw : WR j H w) (hE : ER j e a.tmps)
    (hr : p.run callF e H = some (v, H')) : Does P a o j H w v H' := by
  simp only [cOp] at hc
  split at hc
  · rename_i n el hun
    simp only [Option.bind_eq_some_iff, Option.map_eq_some_iff] at hc
    obtain ⟨s, hs, g, hg, xa, hxa, ia, hia, rfl⟩ := hc
    obtain ⟨u1, u2, h1, h2, h3⟩ := opt2_some hr
    have e1 := opd_sound hE hxa h1
    have e2 := opd_sound hE hia h2
    cases u1 <;> (try simp at h3; done)
    cases u2 <;> (try simp at h3; done)
    obtain ⟨hb, h3⟩ := bif_some h3
    simp only [Bool.and_eq_true, decide_eq_true_eq] at hb
    obtain ⟨h4, rfl⟩ := pureR_some h3
    obtain ⟨l, he, hl⟩ := e1
    simp only [VR] at e2
    obtain ⟨c, hc1, hc2⟩ := part_sound (P := P) (w := w) hg hs hl h4
    refine Does.pure hw hc1 ?_
    simp [execOp, ho, he, e2, Instr.index, asIntOf, run_underlying hun, hb, run_sizeOf hs, hc2]
  · rename_i hun
    simp only [Option.bind_eq_some_iff, Option.map_eq_some_iff] at hc
    obtain ⟨xa, hxa, ia, hia, rfl⟩ := hc
    obtain ⟨u1, u2, h1, h2, h3⟩ := opt2_some hr
    have e1 := opd_sound hE hxa h1
    have e2 := opd_sound hE hia h2
    cases u1 <;> (try simp at h3; done)
    rename_i s
    cases u2 <;> (try simp at h3; done)
    rename_i k n
    obtain ⟨hb, h3⟩ := bif_some h3
    simp only [decide_eq_true_eq] at hb
    split at h3
    · rename_i b hs
      simp only [Option.some.injEq, Prod.mk.injEq] at h3
      obtain ⟨rfl, rfl⟩ := h3
      simp only [VR] at e1 e2
      refine Does.pure (c := .int .u8 b.toNat) hw rfl ?_
      have hlt : n.toNat < s.length := by
        rcases Nat.lt_or_ge n.toNat s.length with h | h
        · exact h
        · rw [List.getElem?_eq_none h] at hs; simp at hs
      have hb2 : (⟨s.toArray⟩ : ByteArray)[n.toNat]? = some b := by
        have hsz : n.toNat < (⟨s.toArray⟩ : ByteArray).size := by simpa [ByteArray.size] using hlt
        rw [getElem?_pos (⟨s.toArray⟩ : ByteArray) n.toNat hsz]
        rw [List.getElem?_eq_getElem hlt] at hs
        simp only [Option.some.injEq] at hs ⊢
        rw [← hs]; rfl
      simp [execOp, ho, e1, e2, Instr.index, asIntOf, run_underlying hun, hb, hb2]
    · simp at h3
  · simp at hc

theorem does_load {t : TypeId} {x : Operand} {p : AOp} (ho : o.op = .load t x) (hc : cOp P (.load t x) = some p) (hw : WR j H w) (hE : ER j e a.tmps)
    (hr : p.run callF e H = some (v, H')) : Does P a o j H w v H' := by
  simp only [cOp, Option.bind_eq_some_iff] at hc
  obtain ⟨n, hn, g, hg, hc⟩ := hc
  obtain ⟨hgn, hc⟩ := if_some hc
  simp only [Option.map_eq_some_iff] at hc
  obtain ⟨xa, hxa, rfl⟩ := hc
  obtain ⟨u, hu, h1⟩ := on1_some hr
  have hv := opd_sound hE hxa hu
  cases u <;> (try simp at h1; done)
  simp only at h1
  split at h1
  · rename_i b off cs hcs
    obtain ⟨loc, hl, he⟩ := hv
    obtain ⟨l, hvl, hrun, hcell⟩ := load_sound (P := P) hw hcs hl
    cases g with
    | true =>
      simp only [cond_true, Option.some.injEq, Prod.mk.injEq] at h1
      obtain ⟨rfl, rfl⟩ := h1
      refine Does.pure hw ⟨l, rfl, hvl⟩ ?_
      simp [execOp, ho, he, Instr.loadAt, Instr.sureAddr, loadVar, run_isAgg hg, run_sizeOf hn, hrun]
    | false =>
      simp only [cond_false] at h1
      split at h1
      · rename_i c0
        simp only [Option.some.injEq, Prod.mk.injEq] at h1
        obtain ⟨rfl, rfl⟩ := h1
        obtain ⟨c, _, rfl, hvc, rfl⟩ := hvl
        have := hcell 0 c rfl
        simp only [Nat.add_zero] at this
        refine Does.pure hw hvc ?_
        simp [execOp, ho, he, Instr.loadAt, Instr.sureAddr, loadVar, run_isAgg hg, this]
      · simp at h1
  · simp at h1

theorem does_store {t : TypeId} {x y : Operand} {p : AOp} (ho : o.op = .store t x y) (hc : cOp P (.store t x y) = some p) (hw : WR j H w) (hE : ER j e a.tmps)
    (hr : p.run callF e H = some (v, H')) : Does P a o j H w v H' := by
  simp only [cOp, Option.bind_eq_some_iff, Option.map_eq_some_iff] at hc
  obtain ⟨n, hn, xa, hxa, ya, hya, rfl⟩ := hc
  obtain ⟨u1, u2, h1, h2, h3⟩ := opt2_some hr
  have e1 := opd_sound hE hxa h1
  have e2 := opd_sound hE hya h2
  cases u1 <;> (try simp at h3; done)
  obtain ⟨hb, h3⟩ := bif_some h3
  simp only [decide_eq_true_eq] at hb
  split at h3
  · rename_i H2 hst
    simp only [Option.some.injEq, Prod.mk.injEq] at h3
    obtain ⟨rfl, rfl⟩ := h3
    obtain ⟨loc, hl, he⟩ := e1
    have hcells := VR.cells e2
    obtain ⟨w', hrun, htr⟩ := store_sound (P := P) hw hst hl hcells
    refine ⟨j, undef, w', htr, ⟨[], rfl, rfl⟩, .inr ⟨?_, rfl⟩⟩
    have hsz : (a.eval y).cells.size = n := by
      have := VRs.length hcells
      simp at this
      omega
    simp [execOp, ho, he, Instr.storeAt, Instr.sureAddr, storeVar, run_sizeOf hn, hsz, hrun]
  · simp at h3

end
end Go.Ev
