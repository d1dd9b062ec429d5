/- Code: what the shallow reading comes to, the evaluator comes to, with fuel enough. No condition. -/
import Derived.Test.YtipdancojcdioaaShN
namespace Go.Sh
set_option linter.unusedVariables false
set_option linter.unusedSimpArgs false
open Go Go.Ev

section
variable {ρ : Type} {P : Fr} {r : RM} {s : St} {e : Env} {H : Heap} {cf : Nat → CallF} {callS : CallS ρ}

/-- a register known better -/
theorem Rel.setS (h : Rel P r s e H) {t : Nat} {v : SV} {u : AV} (hl : lk e t = some u) (hv : VR r v u) : Rel P r (s.put (some t) v) e H := by
  refine ⟨fun q x hx => ?_, fun b k hk => ?_, fun b w hb => by simpa using h.dm b w hb, fun b b' k k' w w' hne h1 h2 => ?_, h.nx, h.ro, h.fr, by simpa using h.st, h.rn, ?_⟩
  · rw [env_put] at hx
    split at hx
    · rename_i hd
      obtain rfl := Option.some.inj hx
      obtain rfl := Option.some.inj hd
      exact ⟨u, hl, hv⟩
    · exact h.er q x hx
  · simpa using h.br b k (by simpa using hk)
  · exact h.ap b b' k k' w w' hne (by simpa using h1) (by simpa using h2)
  · simpa using h.lg

theorem lk_putE_ne {e : Env} {d : Option Nat} {v : AV} {t : Nat} (h : d ≠ some t) : lk (putE e d v) t = lk e t := by
  rw [lk_put, if_neg h]

theorem runS_sound (hcs : CallSnd cf callS) {hint : Nat → Option Hn} : ∀ {is : List AIns} {P : Fr} {r : RM} {s : St} {e : Env} {H : Heap} {κ : St → Option ρ} {y : ρ}, Rel P r s e H → runS callS hint is s κ = some y →
    ∃ n0 e' H' s' r', (∀ n, n0 ≤ n → runIns (cf n) is e H = some (e', H')) ∧ Rel P r' s' e' H' ∧ Ext r r' ∧ Kp s s' ∧ (∀ t, t ∉ asgI is → lk e' t = lk e t) ∧ κ s' = some y
  | [], P, r, s, e, H, κ, y, h, hk => ⟨0, e, H, s, r, fun n _ => rfl, h, Ext.refl r, Kp.refl s, fun t _ => rfl, hk⟩
  | i :: is, P, r, s, e, H, κ, y, h, hk => by
    have hasg : ∀ t, t ∉ asgI (i :: is) → i.dst ≠ some t ∧ t ∉ asgI is := by
      intro t ht
      simp only [asgI] at ht
      split at ht
      · rename_i d hd
        rw [List.mem_cons, not_or] at ht
        exact ⟨by rw [hd]; simp; omega, ht.2⟩
      · rename_i hd
        exact ⟨by rw [hd]; simp, ht⟩
    -- done
    have hyes : ∀ {s1 : St}, Rel P r s1 e H → Kp s s1 → i.wanted e = some true → opS callS (match i.dst with | some d => hint d | none => none) s1 i.op (fun v s => runS callS hint is (s.put i.dst v) κ) = some y →
        ∃ n0 e' H' s' r', (∀ n, n0 ≤ n → runIns (cf n) (i :: is) e H = some (e', H')) ∧ Rel P r' s' e' H' ∧ Ext r r' ∧ Kp s s' ∧ (∀ t, t ∉ asgI (i :: is) → lk e' t = lk e t) ∧ κ s' = some y := by
      intro s1 h1 hkp hw ho
      obtain ⟨n1, u, H1, v, s2, r1, a1, a2, a3, a4, a5, a6, a7⟩ := op_sound hcs h1 ho
      obtain ⟨n2, e', H', s', r', b1, b2, b3, b4, b5, b6⟩ := runS_sound hcs (a2.put i.dst a3) a7
      refine ⟨max n1 n2, e', H', s', r', fun n hn => ?_, b2, a4.trans b3, (hkp.trans (a5.trans (Kp.put ..))).trans b4, fun t ht => ?_, b6⟩
      · simp only [runIns, AIns.step, hw, a1 n (by omega)]
        exact b1 n (by omega)
      · obtain ⟨c1, c2⟩ := hasg t ht
        rw [b5 t c2, lk_putE_ne c1]
    -- left out
    have hno : ∀ {s1 : St}, Rel P r s1 e H → Kp s s1 → i.wanted e = some false → runS callS hint is (s1.put i.dst (.tup [])) κ = some y →
        ∃ n0 e' H' s' r', (∀ n, n0 ≤ n → runIns (cf n) (i :: is) e H = some (e', H')) ∧ Rel P r' s' e' H' ∧ Ext r r' ∧ Kp s s' ∧ (∀ t, t ∉ asgI (i :: is) → lk e' t = lk e t) ∧ κ s' = some y := by
      intro s1 h1 hkp hw ho
      have hv : VR r (.tup []) (.tup []) := ⟨[], rfl, rfl⟩
      obtain ⟨n2, e', H', s', r', b1, b2, b3, b4, b5, b6⟩ := runS_sound hcs (h1.put i.dst hv) ho
      refine ⟨n2, e', H', s', r', fun n hn => ?_, b2, b3, (hkp.trans (Kp.put ..)).trans b4, fun t ht => ?_, b6⟩
      · simp only [runIns, AIns.step, hw]
        exact b1 n hn
      · obtain ⟨c1, c2⟩ := hasg t ht
        rw [b5 t c2, lk_putE_ne c1]
    simp only [runS] at hk
    split at hk
    · rename_i hg
      exact hyes h (Kp.refl s) (by simp only [AIns.wanted, hg]) hk
    · rename_i t b hg
      split at hk
      · rename_i x hx
        obtain ⟨u, h1, h2⟩ := h.er t _ hx
        simp only [VR, tyAV] at h2
        subst h2
        have hw : i.wanted e = some (x == b) := by simp only [AIns.wanted, hg, h1]
        have hput : ∀ z : Bool, x = z → Rel P r (s.put (some t) (.ty .bool z)) e H := fun z hz => h.setS h1 (by subst hz; rfl)
        unfold br at hk
        cases hxv : x with
        | true =>
          rw [hxv] at hk hw
          simp only [cond_true] at hk
          cases b with
          | true => exact hyes (hput true hxv) (Kp.put ..) hw hk
          | false => exact hno (hput true hxv) (Kp.put ..) hw hk
        | false =>
          rw [hxv] at hk hw
          simp only [cond_false] at hk
          cases b with
          | true => exact hno (hput false hxv) (Kp.put ..) hw hk
          | false => exact hyes (hput false hxv) (Kp.put ..) hw hk
      · rename_i l hx
        split at hk
        · obtain ⟨u, h1, h2⟩ := h.er t _ hx
          obtain ⟨us, rfl, h3⟩ := h2
          exact hno h (Kp.refl s) (by simp only [AIns.wanted, hg, h1]) hk
        · simp at hk
      · simp at hk

theorem not_ptr {v : SV} {b o : Nat} (h : VR r v (.ptr b o)) : ∃ c o' p, v = .ptr c o' p := by
  cases v with
  | ty t x => cases t <;> simp [VR, tyAV] at h
  | ptr c o' p => exact ⟨c, o', p, rfl⟩
  | sla b ex => obtain ⟨w, _, ⟨_, h, _⟩ | ⟨_, _, _, h⟩⟩ := h <;> simp at h
  | slw b o l c => obtain ⟨w, _, _, ⟨_, h⟩ | ⟨_, _, _, h⟩⟩ := h <;> simp at h
  | segs l => obtain ⟨_, h, _⟩ := h; simp at h
  | tup l => obtain ⟨_, h, _⟩ := h; simp at h
  | fn f a c => obtain ⟨_, _, h, _⟩ := h; simp at h
  | nilp => simp [VR] at h
  | nils => simp [VR] at h
  | nilf => simp [VR] at h

theorem okS_sound (h : Rel P r s e H) (hL : P.Lg = []) : ∀ {l : List Nat}, okS s l = true → okConf e P.n0 H.log l = true
  | [], _ => rfl
  | t :: l, hk => by
    simp only [okS, Bool.and_eq_true] at hk
    obtain ⟨h1, h2⟩ := hk
    simp only [okConf, Bool.and_eq_true]
    refine ⟨?_, okS_sound h hL h2⟩
    split
    · rename_i b o hl
      split at h1
      · rename_i c o' p hc
        split at h1
        · rename_i k hk
          simp only [Bool.and_eq_true, blt_iff] at h1
          obtain ⟨h3, h4⟩ := h1
          obtain ⟨u, g1, g2⟩ := h.er t _ hc
          rw [hl] at g1
          obtain rfl := Option.some.inj g1
          obtain ⟨w, q1, q2, q3, q4⟩ := g2
          simp only [AV.ptr.injEq] at q3
          obtain ⟨lg, a1, a2, a3⟩ := h.lg
          rw [hL, List.append_nil] at a1
          obtain ⟨b1, b2⟩ := a3 c k w hk q1 q2 h3 (fun hm => by
            have := List.all_eq_true.1 h4 c hm
            simp at this)
          rw [a1, q3.1]
          simp only [Bool.and_eq_true, Nat.blt_eq]
          refine ⟨b1, List.all_eq_true.2 (fun x hx => ?_)⟩
          simp only [Bool.not_eq_true']
          cases hb : Nat.beq x w.hb with
          | false => rfl
          | true => exact absurd ((Nat.eq_of_beq_eq_true hb) ▸ hx) b2
        · simp at h1
      · rename_i v hnp hv
        obtain ⟨u, g1, g2⟩ := h.er t _ hv
        rw [hl] at g1
        obtain rfl := Option.some.inj g1
        obtain ⟨c, o', p, rfl⟩ := not_ptr g2
        exact absurd rfl (hnp c o' p)
      · simp at h1
    · rfl

/-- code, if there is fuel enough -/
def CodeEv (cf : Nat → CallF) (c : ACode) (e : Env) (H : Heap) (x : AEx) (e' : Env) (H' : Heap) : Prop := ∃ n0, ∀ n, n0 ≤ n → evC (cf n) n c e H = some (x, e', H')

theorem toSh_some {s0 s : St} {sh : Shape} {K : HL sh.sig → Option ρ} {y : ρ} (h : toSh s0 sh s K = some y) : ∃ z, absS s0 s sh = some (true, z) ∧ K z = some y := by
  unfold toSh at h
  split at h
  · rename_i g z hz
    obtain ⟨hg, h⟩ := chk_some h
    subst hg
    exact ⟨z, hz, h⟩
  · simp at h

theorem ofSh_some {s0 : St} {kill : List Nat} {sh : Shape} {z : HL sh.sig} {k : St → Option ρ} {y : ρ} (h : ofSh s0 kill sh z k = some y) : ∃ s1, conS s0 kill sh z = some s1 ∧ k s1 = some y := by
  unfold ofSh at h
  split at h
  · rename_i s1 hs
    exact ⟨s1, hs, h⟩
  · simp at h

theorem setC_rel (h : Rel P r s e H) {c : Opd} {x : Bool} (hc : c.get e = some (.bool x)) : Rel P r (setC s c x) e H := by
  cases c with
  | t t => exact h.setS hc rfl
  | c v => exact h

theorem setC_kp (c : Opd) (x : Bool) : Kp s (setC s c x) := by
  cases c with
  | t t => exact Kp.put s (some t) (.ty .bool x)
  | c v => exact Kp.refl s

def DenOk (cf : Nat → CallF) (c : ACode) (P : Fr) (r : RM) (s : St) (e : Env) (H : Heap) (k : KS ρ) (y : ρ) : Prop :=
  ∃ x e' H' s' r', CodeEv cf c e H x e' H' ∧ Rel P r' s' e' H' ∧ Ext r r' ∧ Kp s s' ∧ (∀ t, t ∉ asg c → lk e' t = lk e t) ∧ k x s' = some y

theorem den_sound (hcs : CallSnd cf callS) {N : Nat} {hint : Nat → Option Hn} {an : Nat → Option Shape} : ∀ {c : ACode} {i : Nat} {P : Fr} {r : RM} {s : St} {e : Env} {H : Heap} {k : KS ρ} {y : ρ}, Rel P r s e H → den N callS hint an i c s k = some y → DenOk cf c P r s e H k y
  | .skip, i, P, r, s, e, H, k, y, h, hk => ⟨_, e, H, s, r, ⟨0, fun n _ => rfl⟩, h, Ext.refl r, Kp.refl s, fun t _ => rfl, hk⟩
  | .ret, i, P, r, s, e, H, k, y, h, hk => ⟨_, e, H, s, r, ⟨0, fun n _ => rfl⟩, h, Ext.refl r, Kp.refl s, fun t _ => rfl, hk⟩
  | .exit id, i, P, r, s, e, H, k, y, h, hk => ⟨_, e, H, s, r, ⟨0, fun n _ => rfl⟩, h, Ext.refl r, Kp.refl s, fun t _ => rfl, hk⟩
  | .region ins, i, P, r, s, e, H, k, y, h, hk => by
    simp only [den] at hk
    obtain ⟨n0, e', H', s', r', h1, h2, h3, h4, h5, h6⟩ := runS_sound hcs h hk
    exact ⟨_, e', H', s', r', ⟨n0, fun n hn => by simp only [evC, h1 n hn]⟩, h2, h3, h4, h5, h6⟩
  | .regionD ins conf, i, P, r, s, e, H, k, y, h, hk => by
    simp only [den] at hk
    have hlt : ∀ b k, s.heap.get b = some k → ∀ w, r b = some w → w.virt = false → w.hb < H.next := by
      intro b k hb w hw hv
      obtain ⟨w', g1, _, _, g4⟩ := h.br b k hb
      rw [hw] at g1
      obtain rfl := Option.some.inj g1
      exact (g4 hv).1
    have h1 : Rel ⟨P.H0, P.F0, H.next, []⟩ r { s with start := s.next, log := [] } e (H.withLog []) :=
      ⟨h.er, fun b k hb => by
        obtain ⟨w, g1, g2, g3, g4⟩ := h.br b k hb
        exact ⟨w, g1, BR.mono (Ext.refl r) (fun _ => by simp) g2, g3, g4⟩, h.dm, h.ap, h.nx, h.ro, fun x hx hf => by simpa using h.fr x hx hf, Nat.le_refl _, h.rn,
        ⟨[], by simp, fun x hx => by simp at hx, fun b k w hb hw hv _ _ => ⟨hlt b k hb w hw hv, by simp⟩⟩⟩
    obtain ⟨n0, e', H', s', r', a1, a2, a3, a4, a5, a6⟩ := runS_sound hcs h1 hk
    obtain ⟨ho, hk2⟩ := bif_some' a6
    have hconf := okS_sound a2 rfl ho
    obtain ⟨l1, b1, b2, b3⟩ := a2.lg
    obtain ⟨l0, c1, c2, c3⟩ := h.lg
    rw [List.append_nil] at b1
    obtain ⟨ls, d1, d2⟩ := a4.log
    simp only [List.append_nil] at d1
    refine ⟨.normal, e', H'.withLog (H'.log ++ H.log), { s' with start := s.start, log := s'.log ++ s.log }, r', ⟨n0, fun n hn => ?_⟩, ?_, a3, ?_, a5, hk2⟩
    · simp only [evC, a1 n hn, hconf, cond_true]
    · refine ⟨a2.er, fun b k hb => ?_, a2.dm, a2.ap, a2.nx, a2.ro, fun x hx hf => by simpa using a2.fr x hx hf, Nat.le_trans h.st a4.next, h.rn, ⟨l1 ++ l0, ?_, fun x hx => ?_, fun b k w hb hw hv hlt2 hnl => ?_⟩⟩
      · obtain ⟨w, g1, g2, g3, g4⟩ := a2.br b k hb
        exact ⟨w, g1, BR.mono (Ext.refl r') (fun _ => by simp) g2, g3, g4⟩
      · simp only [Heap.log_withLog, b1, c1, List.append_assoc]
      · rcases List.mem_append.1 hx with hx | hx
        · exact b2 x hx
        · exact c2 x hx
      · simp only at hlt2 hnl
        rw [List.mem_append, not_or] at hnl
        have hbn : b < s.next := Nat.lt_of_lt_of_le hlt2 h.st
        obtain ⟨q1, q2⟩ := b3 b k w hb hw hv (by rw [a4.start]; exact hbn) hnl.1
        have hsame := d2 b hbn (by rw [← d1]; exact hnl.1)
        rw [hsame] at hb
        obtain ⟨w0, g1, _⟩ := h.br b k hb
        have := a3 b w0 g1
        rw [hw] at this
        obtain rfl := Option.some.inj this
        obtain ⟨q3, q4⟩ := c3 b k w hb g1 hv hlt2 hnl.2
        exact ⟨q3, by rw [List.mem_append, not_or]; exact ⟨q2, q4⟩⟩
    · exact ⟨a4.next, rfl, s'.log, rfl, fun b hb hn => d2 b hb (by rw [← d1]; exact hn)⟩
  | .seq a b, i, P, r, s, e, H, k, y, h, hk => by
    have hn : ∀ t, t ∉ asg (.seq a b) → t ∉ asg a ∧ t ∉ asg b := fun t ht => by simpa [asg, not_or] using ht
    -- what stands behind
    have hb : ∀ {e1 : Env} {H1 : Heap} {s1 : St} {r1 : RM}, CodeEv cf a e H .normal e1 H1 → Rel P r1 s1 e1 H1 → Ext r r1 → Kp s s1 → (∀ t, t ∉ asg a → lk e1 t = lk e t) → den N callS hint an (i + 1 + cnt a) b s1 k = some y → DenOk cf (.seq a b) P r s e H k y := by
      rintro e1 H1 s1 r1 ⟨n1, a1⟩ a2 a3 a4 a5 a6
      obtain ⟨x2, e2, H2, s2, r2, ⟨n2, b1⟩, b2, b3, b4, b5, b6⟩ := den_sound hcs a2 a6
      exact ⟨x2, e2, H2, s2, r2, ⟨max n1 n2, fun n hn => by simp only [evC, a1 n (by omega)]; exact b1 n (by omega)⟩, b2, a3.trans b3, a4.trans b4, fun t ht => by rw [b5 t (hn t ht).2, a5 t (hn t ht).1], b6⟩
    simp only [den] at hk
    split at hk
    · obtain ⟨x, e1, H1, s1, r1, a1, a2, a3, a4, a5, a6⟩ := den_sound hcs h hk
      cases x with
      | normal => exact hb a1 a2 a3 a4 a5 a6
      | exit id => obtain ⟨n1, a1⟩ := a1; exact ⟨_, e1, H1, s1, r1, ⟨n1, fun n hn => by simp only [evC, a1 n hn]⟩, a2, a3, a4, fun t ht => a5 t (hn t ht).1, a6⟩
      | ret => obtain ⟨n1, a1⟩ := a1; exact ⟨_, e1, H1, s1, r1, ⟨n1, fun n hn => by simp only [evC, a1 n hn]⟩, a2, a3, a4, fun t ht => a5 t (hn t ht).1, a6⟩
    · rename_i sh _
      unfold jp at hk
      obtain ⟨x, e1, H1, s1, r1, a1, a2, a3, a4, a5, a6⟩ := den_sound hcs h hk
      cases x with
      | normal =>
        simp only at a6
        obtain ⟨z, c1, c2⟩ := toSh_some a6
        obtain ⟨s2, c3, c4⟩ := ofSh_some c2
        obtain ⟨s3, r3, d1, d2, d3, d4, _⟩ := join_sound h a2 a3 a4 a5 c1
        rw [c3] at d1
        obtain rfl := Option.some.inj d1
        exact hb a1 d2 d3 d4 a5 c4
      | exit id => obtain ⟨n1, a1⟩ := a1; exact ⟨_, e1, H1, s1, r1, ⟨n1, fun n hn => by simp only [evC, a1 n hn]⟩, a2, a3, a4, fun t ht => a5 t (hn t ht).1, a6⟩
      | ret => obtain ⟨n1, a1⟩ := a1; exact ⟨_, e1, H1, s1, r1, ⟨n1, fun n hn => by simp only [evC, a1 n hn]⟩, a2, a3, a4, fun t ht => a5 t (hn t ht).1, a6⟩
  | .cond c a b, i, P, r, s, e, H, k, y, h, hk => by
    simp only [den] at hk
    obtain ⟨v, hv, hk1⟩ := orNone_some hk
    obtain ⟨u, h1, h2⟩ := opd_sound h hv
    have hn : ∀ t, t ∉ asg (.cond c a b) → t ∉ asg a ∧ t ∉ asg b := fun t ht => by simpa [asg, not_or] using ht
    have hset : ∀ x, u = .bool x → Rel P r (setC s c x) e H := fun x hx => setC_rel h (by rw [← hx]; exact h1)
    -- one way, as it stands
    have hleft : ∀ (k : KS ρ), u = .bool true → DenOk cf a P r (setC s c true) e H k y → ∃ x e' H' s' r', CodeEv cf (.cond c a b) e H x e' H' ∧ Rel P r' s' e' H' ∧ Ext r r' ∧ Kp s s' ∧ (∀ t, t ∉ asg a ++ asg b → lk e' t = lk e t) ∧ k x s' = some y := by
      rintro k hu ⟨x, e', H', s', r', ⟨n1, b1⟩, b2, b3, b4, b5, b6⟩
      rw [hu] at h1
      exact ⟨x, e', H', s', r', ⟨n1, fun n hn => by simp only [evC, h1, cond_true]; exact b1 n hn⟩, b2, b3, (setC_kp c true).trans b4, fun t ht => b5 t (fun hm => ht (List.mem_append.2 (.inl hm))), b6⟩
    have hright : ∀ (k : KS ρ), u = .bool false → DenOk cf b P r (setC s c false) e H k y → ∃ x e' H' s' r', CodeEv cf (.cond c a b) e H x e' H' ∧ Rel P r' s' e' H' ∧ Ext r r' ∧ Kp s s' ∧ (∀ t, t ∉ asg a ++ asg b → lk e' t = lk e t) ∧ k x s' = some y := by
      rintro k hu ⟨x, e', H', s', r', ⟨n1, b1⟩, b2, b3, b4, b5, b6⟩
      rw [hu] at h1
      exact ⟨x, e', H', s', r', ⟨n1, fun n hn => by simp only [evC, h1, cond_false]; exact b1 n hn⟩, b2, b3, (setC_kp c false).trans b4, fun t ht => b5 t (fun hm => ht (List.mem_append.2 (.inr hm))), b6⟩
    split at hk1
    · rename_i x
      simp only [VR, tyAV] at h2
      subst h2
      split at hk1
      · unfold br at hk1
        cases x with
        | true =>
          simp only [cond_true] at hk1
          exact hleft k rfl (den_sound hcs (hset true rfl) hk1)
        | false =>
          simp only [cond_false] at hk1
          exact hright k rfl (den_sound hcs (hset false rfl) hk1)
      · rename_i sh _
        unfold jp at hk1
        have hjoin : ∀ {x' : AEx} {e' : Env} {H' : Heap} {s' : St} {r' : RM}, CodeEv cf (.cond c a b) e H x' e' H' → Rel P r' s' e' H' → Ext r r' → Kp s s' → (∀ t, t ∉ asg a ++ asg b → lk e' t = lk e t) →
            (match x' with
            | .normal => toSh s sh s' (fun y => ofSh s (asg a ++ asg b) sh y fun s' => k .normal s')
            | x => k x s') = some y → DenOk cf (.cond c a b) P r s e H k y := by
          intro x' e' H' s' r' b1 b2 b3 b4 b5 b6
          cases x' with
          | normal =>
            simp only at b6
            obtain ⟨z, c1, c2⟩ := toSh_some b6
            obtain ⟨s1, c3, c4⟩ := ofSh_some c2
            obtain ⟨s2, r2, d1, d2, d3, d4, _⟩ := join_sound h b2 b3 b4 b5 c1
            rw [c3] at d1
            obtain rfl := Option.some.inj d1
            exact ⟨_, e', H', s1, r2, b1, d2, d3, d4, b5, c4⟩
          | exit id => exact ⟨_, e', H', s', r', b1, b2, b3, b4, b5, b6⟩
          | ret => exact ⟨_, e', H', s', r', b1, b2, b3, b4, b5, b6⟩
        unfold br at hk1
        cases x with
        | true =>
          simp only [cond_true] at hk1
          obtain ⟨x', e', H', s', r', b1, b2, b3, b4, b5, b6⟩ := hleft _ rfl (den_sound hcs (hset true rfl) hk1)
          exact hjoin b1 b2 b3 b4 b5 b6
        | false =>
          simp only [cond_false] at hk1
          obtain ⟨x', e', H', s', r', b1, b2, b3, b4, b5, b6⟩ := hright _ rfl (den_sound hcs (hset false rfl) hk1)
          exact hjoin b1 b2 b3 b4 b5 b6
    · simp at hk1
  | .block id b, i, P, r, s, e, H, k, y, h, hk => by
    simp only [den] at hk
    split at hk
    · obtain ⟨x, e1, H1, s1, r1, ⟨n1, a1⟩, a2, a3, a4, a5, a6⟩ := den_sound hcs h hk
      cases x with
      | normal => exact ⟨_, e1, H1, s1, r1, ⟨n1, fun n hn => by simp only [evC, a1 n hn]⟩, a2, a3, a4, a5, a6⟩
      | ret => exact ⟨_, e1, H1, s1, r1, ⟨n1, fun n hn => by simp only [evC, a1 n hn]⟩, a2, a3, a4, a5, a6⟩
      | exit id' =>
        simp only at a6
        cases hb : id'.beq id with
        | true =>
          rw [hb, cond_true] at a6
          exact ⟨_, e1, H1, s1, r1, ⟨n1, fun n hn => by simp only [evC, a1 n hn, hb, cond_true]⟩, a2, a3, a4, a5, a6⟩
        | false =>
          rw [hb, cond_false] at a6
          exact ⟨_, e1, H1, s1, r1, ⟨n1, fun n hn => by simp only [evC, a1 n hn, hb, cond_false]⟩, a2, a3, a4, a5, a6⟩
    · rename_i sh _
      unfold jp at hk
      obtain ⟨x, e1, H1, s1, r1, ⟨n1, a1⟩, a2, a3, a4, a5, a6⟩ := den_sound hcs h hk
      have hjoin : CodeEv cf (.block id b) e H .normal e1 H1 → toSh s sh s1 (fun y => ofSh s (asg b) sh y fun s' => k .normal s') = some y → DenOk cf (.block id b) P r s e H k y := by
        intro b1 b6
        obtain ⟨z, c1, c2⟩ := toSh_some b6
        obtain ⟨s2, c3, c4⟩ := ofSh_some c2
        obtain ⟨s3, r3, d1, d2, d3, d4, _⟩ := join_sound h a2 a3 a4 a5 c1
        rw [c3] at d1
        obtain rfl := Option.some.inj d1
        exact ⟨_, e1, H1, s2, r3, b1, d2, d3, d4, a5, c4⟩
      cases x with
      | normal => exact hjoin ⟨n1, fun n hn => by simp only [evC, a1 n hn]⟩ a6
      | ret => exact ⟨_, e1, H1, s1, r1, ⟨n1, fun n hn => by simp only [evC, a1 n hn]⟩, a2, a3, a4, a5, a6⟩
      | exit id' =>
        simp only at a6
        cases hb : id'.beq id with
        | true =>
          rw [hb, cond_true] at a6
          exact hjoin ⟨n1, fun n hn => by simp only [evC, a1 n hn, hb, cond_true]⟩ a6
        | false =>
          rw [hb, cond_false] at a6
          exact ⟨_, e1, H1, s1, r1, ⟨n1, fun n hn => by simp only [evC, a1 n hn, hb, cond_false]⟩, a2, a3, a4, a5, a6⟩
  | .loop b, i, P, r, s, e, H, k, y, h, hk => by
    simp only [den] at hk
    obtain ⟨sh, hsh, hk1⟩ := orNone_some hk
    obtain ⟨z, c1, c2⟩ := toSh_some hk1
    obtain ⟨s1, r1, d1, d2, d3, d4, _⟩ := join_sound (kill := asg b) h h (Ext.refl r) (Kp.refl s) (fun t _ => rfl) c1
    have key : ∀ (m : Nat) {z : HL sh.sig} {s1 : St} {r1 : RM} {e1 : Env} {H1 : Heap}, conS s (asg b) sh z = some s1 → Rel P r1 s1 e1 H1 → Ext r r1 → Kp s s1 → (∀ t, t ∉ asg b → lk e1 t = lk e t) →
        fixN m (fun again y => ofSh s (asg b) sh y fun s' => den N callS hint an (i + 1) b s' fun x s' => match x with
          | .normal => toSh s sh s' again
          | x => k x s') z = some y →
        ∃ x e' H' s' r', (∃ n0 j0, ∀ n, n0 ≤ n → ∀ j, j0 ≤ j → loopN (fun e h => evC (cf n) n b e h) j e1 H1 = some (x, e', H')) ∧ Rel P r' s' e' H' ∧ Ext r r' ∧ Kp s s' ∧ (∀ t, t ∉ asg b → lk e' t = lk e t) ∧ k x s' = some y := by
      intro m
      induction m with
      | zero => intro z s1 r1 e1 H1 _ _ _ _ _ hf; simp [fixN] at hf
      | succ m ih =>
        intro z s1 r1 e1 H1 hc hr hx hkp hke hf
        simp only [fixN] at hf
        obtain ⟨s1', hc', hf1⟩ := ofSh_some hf
        rw [hc] at hc'
        obtain rfl := Option.some.inj hc'
        obtain ⟨x, e2, H2, s2, r2, ⟨n1, a1⟩, a2, a3, a4, a5, a6⟩ := den_sound hcs hr hf1
        have hke2 : ∀ t, t ∉ asg b → lk e2 t = lk e t := fun t ht => by rw [a5 t ht, hke t ht]
        cases x with
        | normal =>
          simp only at a6
          obtain ⟨z2, g1, g2⟩ := toSh_some a6
          obtain ⟨s3, r3, q1, q2, q3, q4, _⟩ := join_sound h a2 (hx.trans a3) (hkp.trans a4) hke2 g1
          obtain ⟨x', e', H', s', r', ⟨n2, j2, b1⟩, b2⟩ := ih q1 q2 q3 q4 hke2 g2
          refine ⟨x', e', H', s', r', ⟨max n1 n2, j2 + 1, fun n hn j hj => ?_⟩, b2⟩
          obtain ⟨j, rfl⟩ : ∃ i, j = i + 1 := ⟨j - 1, by omega⟩
          simp only [loopN, a1 n (by omega)]
          exact b1 n (by omega) j (by omega)
        | exit id =>
          refine ⟨_, e2, H2, s2, r2, ⟨n1, 1, fun n hn j hj => ?_⟩, a2, hx.trans a3, hkp.trans a4, hke2, a6⟩
          obtain ⟨j, rfl⟩ : ∃ i, j = i + 1 := ⟨j - 1, by omega⟩
          simp only [loopN, a1 n (by omega)]
        | ret =>
          refine ⟨_, e2, H2, s2, r2, ⟨n1, 1, fun n hn j hj => ?_⟩, a2, hx.trans a3, hkp.trans a4, hke2, a6⟩
          obtain ⟨j, rfl⟩ : ∃ i, j = i + 1 := ⟨j - 1, by omega⟩
          simp only [loopN, a1 n (by omega)]
    obtain ⟨x, e', H', s', r', ⟨n0, j0, b1⟩, b2⟩ := key N d1 d2 d3 d4 (fun t _ => rfl) c2
    exact ⟨x, e', H', s', r', ⟨max n0 j0, fun n hn => by simp only [evC]; exact b1 n (by omega) n (by omega)⟩, b2⟩

end
end Go.Sh
