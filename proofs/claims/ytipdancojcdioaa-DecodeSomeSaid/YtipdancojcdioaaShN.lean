/- Where ways meet: the state told and put together again is the evaluator's. No condition. -/
import Derived.Test.YtipdancojcdioaaShM
namespace Go.Sh
set_option linter.unusedVariables false
set_option linter.unusedSimpArgs false
open Go Go.Ev

mutual
theorem DR.on {r r' : RM} : ∀ {sh : RSh} {ds : List Dyn} {u : AV}, (∀ k ∈ sh.refs, ∀ w, r k = some w → r' k = some w) → DR r sh ds u → DR r' sh ds u
  | .ty t, ds, u, _, k => k
  | .nilp, ds, u, _, k => k
  | .nils, ds, u, _, k => k
  | .nilf, ds, u, _, k => k
  | .cst _ _, ds, u, _, k => k
  | .ptr b, ds, u, h, ⟨h1, w, h2, h3⟩ => ⟨h1, w, h b (by simp [RSh.refs]) w h2, h3⟩
  | .sla b ex, ds, u, h, ⟨h1, w, h2, h3⟩ => ⟨h1, w, h b (by simp [RSh.refs]) w h2, h3⟩
  | .slw b, ds, u, h, ⟨o, l, h1, w, h2, h3⟩ => ⟨o, l, h1, w, h b (by simp [RSh.refs]) w h2, h3⟩
  | .segs l, ds, u, h, ⟨cs, h1, h2⟩ => ⟨cs, h1, DCs.on h h2⟩
  | .tup l, ds, u, h, ⟨us, h1, h2⟩ => ⟨us, h1, DRs.on h h2⟩
  | .fn f a c, ds, u, h, ⟨us, ws, d1, d2, h1, h2, h3, h4⟩ =>
    ⟨us, ws, d1, d2, h1, h2, DRs.on (fun k hk => h k (List.mem_append.2 (.inl hk))) h3, DRs.on (fun k hk => h k (List.mem_append.2 (.inr hk))) h4⟩
theorem DRs.on {r r' : RM} : ∀ {l : List RSh} {ds : List Dyn} {us : List AV}, (∀ k ∈ refsL l, ∀ w, r k = some w → r' k = some w) → DRs r l ds us → DRs r' l ds us
  | [], ds, us, _, k => k
  | x :: l, ds, us, h, ⟨d1, d2, u, us', h1, h2, h3, h4⟩ =>
    ⟨d1, d2, u, us', h1, h2, DR.on (fun k hk => h k (List.mem_append.2 (.inl hk))) h3, DRs.on (fun k hk => h k (List.mem_append.2 (.inr hk))) h4⟩
theorem DCs.on {r r' : RM} : ∀ {l : List RSh} {ds : List Dyn} {us : List AV}, (∀ k ∈ refsL l, ∀ w, r k = some w → r' k = some w) → DCs r l ds us → DCs r' l ds us
  | [], ds, us, _, k => k
  | x :: l, ds, us, h, ⟨d1, d2, u, us', h1, h2, h3, h4⟩ =>
    ⟨d1, d2, u, us', h1, h2, DR.on (fun k hk => h k (List.mem_append.2 (.inl hk))) h3, DCs.on (fun k hk => h k (List.mem_append.2 (.inr hk))) h4⟩
end

theorem DB.on {r r' : RM} {H : Heap} {w : W} {c : CSh} {ds : List Dyn} (h : ∀ k ∈ c.refs, ∀ w, r k = some w → r' k = some w) (k : DB r H w c ds) : DB r' H w c ds := by
  cases c with
  | one sh => obtain ⟨h0, u, pre, post, h1, h2⟩ := k; exact ⟨h0, u, pre, post, DR.on h h1, h2⟩
  | many t => exact k

mutual
/-- what is known of a value under a map holds under each map that has the same of its blocks -/
theorem VR.swap {r0 r r' : RM} (h : Ext r0 r) (h' : Ext r0 r') : ∀ {v : SV} {u0 u : AV}, VR r0 v u0 → VR r v u → VR r' v u
  | .ty _ _, _, _, _, k => k
  | .nilp, _, _, _, k => k
  | .nils, _, _, _, k => k
  | .nilf, _, _, _, k => k
  | .ptr b _ _, _, _, ⟨w0, a, _⟩, ⟨w, c, d⟩ => by
    rw [h _ _ a] at c
    obtain rfl := Option.some.inj c
    exact ⟨w0, h' _ _ a, d⟩
  | .sla b _, _, _, ⟨w0, a, _⟩, ⟨w, c, d⟩ => by
    rw [h _ _ a] at c
    obtain rfl := Option.some.inj c
    exact ⟨w0, h' _ _ a, d⟩
  | .slw b _ _ _, _, _, ⟨w0, a, _⟩, ⟨w, c, d⟩ => by
    rw [h _ _ a] at c
    obtain rfl := Option.some.inj c
    exact ⟨w0, h' _ _ a, d⟩
  | .segs _, _, _, ⟨_, _, a⟩, ⟨cs, e, k⟩ => ⟨cs, e, CRs.swap h h' a k⟩
  | .tup _, _, _, ⟨_, _, a⟩, ⟨cs, e, k⟩ => ⟨cs, e, VRs.swap h h' a k⟩
  | .fn _ _ _, _, _, ⟨_, _, _, a, b⟩, ⟨x, y, e, k, l⟩ => ⟨x, y, e, VRs.swap h h' a k, VRs.swap h h' b l⟩
theorem VRs.swap {r0 r r' : RM} (h : Ext r0 r) (h' : Ext r0 r') : ∀ {l : List SV} {us0 us : List AV}, VRs r0 l us0 → VRs r l us → VRs r' l us
  | [], _, _, _, k => k
  | _ :: _, _, _, ⟨_, _, _, a, b⟩, ⟨v, l, e, k, m⟩ => ⟨v, l, e, VR.swap h h' a k, VRs.swap h h' b m⟩
theorem CRs.swap {r0 r r' : RM} (h : Ext r0 r) (h' : Ext r0 r') : ∀ {l : List SV} {us0 us : List AV}, CRs r0 l us0 → CRs r l us → CRs r' l us
  | [], _, _, _, k => k
  | _ :: _, _, _, ⟨_, _, _, a, b⟩, ⟨v, l, e, k, m⟩ => ⟨v, l, e, VR.swap h h' a k, CRs.swap h h' b m⟩
end

theorem BR.swap {r0 r r' : RM} (h : Ext r0 r) (h' : Ext r0 r') {H0 H : Heap} {w0 w : W} {c : Cont} (k0 : BR r0 H0 w0 c) (k : BR r H w c) : BR r' H w c := by
  cases c with
  | one v =>
    obtain ⟨_, u0, _, _, a, _⟩ := k0
    obtain ⟨q, u, pre, post, b, d⟩ := k
    exact ⟨q, u, pre, post, VR.swap h h' a b, d⟩
  | many t xs => exact k

/-! ### registers -/
def RegsAre (e : Env) : List (Nat × RSh) → List AV → Prop
  | [], us => us = []
  | x :: l, us => ∃ u us', us = u :: us' ∧ lk e x.1 = some u ∧ RegsAre e l us'

section
variable {P : Fr} {r : RM} {s : St} {e : Env} {H : Heap}

theorem getRegs_sound (h : Rel P r s e H) : ∀ {l : List (Nat × RSh)} {vs : List SV}, getRegs s l = some vs → ∃ us, RegsAre e l us ∧ VRs r vs us
  | [], vs, hg => by
    simp only [getRegs, Option.some.injEq] at hg
    subst hg
    exact ⟨[], rfl, rfl⟩
  | (t, sh) :: l, vs, hg => by
    simp only [getRegs] at hg
    split at hg
    · rename_i v hv
      split at hg
      · rename_i ws hws
        obtain rfl := Option.some.inj hg
        obtain ⟨u, h1, h2⟩ := h.er t v hv
        obtain ⟨us, h3, h4⟩ := getRegs_sound h hws
        exact ⟨u :: us, ⟨u, us, rfl, h1, h3⟩, u, us, rfl, h2, h4⟩
      · simp at hg
    · simp at hg

def ErOk (r : RM) (env : Tr SV) (e : Env) : Prop := ∀ t v, env.get t = some v → ∃ u, lk e t = some u ∧ VR r v u

theorem conE_sound : ∀ {l : List (Nat × RSh)} {vs : List SV} {us : List AV} {env : Tr SV}, RegsAre e l us → VRs r vs us → ErOk r env e → ErOk r (conE l vs env) e
  | [], vs, us, env, h1, h2, h3 => by
    simp only [RegsAre] at h1
    subst h1
    cases vs with
    | nil => exact h3
    | cons v vs => exact h3
  | (t, sh) :: l, vs, us, env, h1, h2, h3 => by
    obtain ⟨u, us', rfl, h4, h5⟩ := h1
    cases vs with
    | nil => simp [VRs] at h2
    | cons v vs =>
      obtain ⟨u2, us2, he, h6, h7⟩ := h2
      simp only [List.cons.injEq] at he
      obtain ⟨rfl, rfl⟩ := he
      show ErOk r (conE l vs (env.set (t + 1) t (some v))) e
      refine conE_sound h5 h7 (fun q w hq => ?_)
      rw [Tr.get_set _ _ _ _ _ (by omega)] at hq
      split at hq
      · rename_i hqt
        subst hqt
        obtain rfl := Option.some.inj hq
        exact ⟨u, h4, h6⟩
      · exact h3 q w hq

theorem delE_get : ∀ {l : List Nat} {env : Tr SV} {t : Nat} {v : SV}, (delE l env).get t = some v → t ∉ l ∧ env.get t = some v
  | [], env, t, v, h => ⟨by simp, h⟩
  | x :: l, env, t, v, h => by
    obtain ⟨h1, h2⟩ := delE_get (l := l) h
    rw [Tr.get_set _ _ _ _ _ (by omega)] at h2
    split at h2
    · simp at h2
    · rename_i hne
      exact ⟨by simp [h1, hne], h2⟩

/-! ### blocks -/
theorem delB_get {rn : Nat → Nat} : ∀ {l : List Nat} {h : Tr Blk} {m : Nat}, (∀ b ∈ l, m ≠ rn b) → (delB rn l h).get m = h.get m
  | [], h, m, _ => rfl
  | x :: l, h, m, hm => by
    rw [delB, delB_get (fun b hb => hm b (List.mem_cons_of_mem _ hb)), Tr.get_set _ _ _ _ _ (by omega), if_neg (hm x (List.mem_cons_self ..))]

theorem delB_none {rn : Nat → Nat} : ∀ {l : List Nat} {h : Tr Blk} {b : Nat}, b ∈ l → (delB rn l h).get (rn b) = none
  | x :: l, h, b, hb => by
    rw [delB]
    by_cases hbl : b ∈ l
    · exact delB_none hbl
    · have hx : b = x := by
        rcases List.mem_cons.1 hb with h | h
        · exact h
        · exact absurd h hbl
      subst hx
      by_cases hq : ∀ c ∈ l, rn b ≠ rn c
      · rw [delB_get hq, Tr.get_set _ _ _ _ _ (by omega), if_pos rfl]
      · simp only [Classical.not_forall, Decidable.not_not] at hq
        obtain ⟨c, hc, he⟩ := hq
        rw [he]
        exact delB_none hc

theorem conOld_sound {rn : Nat → Nat} {q rT : RM} (hv : Via rn q rT) : ∀ {l : List (Nat × CSh)} {ds : List Dyn} {h : Tr Blk}, OldsOk q r s H l ds → (l.map fun x => rn x.1).Nodup →
    ∃ h', (∀ rest, conOld rn l (ds ++ rest) h = some (h', rest)) ∧ (∀ m, (∀ x ∈ l, m ≠ rn x.1) → h'.get m = h.get m) ∧
      ∀ x ∈ l, ∃ c w k, h'.get (rn x.1) = some ⟨true, c⟩ ∧ r x.1 = some w ∧ BR rT H w c ∧ s.heap.get x.1 = some k ∧ k.own = true
  | [], ds, h, ho, _ => by
    simp only [OldsOk] at ho
    subst ho
    exact ⟨h, fun rest => rfl, fun m _ => rfl, fun x hx => by simp at hx⟩
  | (b, c) :: l, ds, h, ho, hn => by
    obtain ⟨d1, d2, w, k, rfl, h1, h2, h3, h4, h5⟩ := ho
    obtain ⟨cont, h6, h7⟩ := conC_sound hv h4
    rw [List.map_cons, List.nodup_cons] at hn
    obtain ⟨h', h8, h9, h10⟩ := conOld_sound hv (h := h.set (rn b + 1) (rn b) (some ⟨true, cont⟩)) h5 hn.2
    refine ⟨h', fun rest => by simp only [conOld, List.append_assoc, h6, h8], fun m hm => ?_, fun x hx => ?_⟩
    · rw [h9 m (fun x hx => hm x (List.mem_cons_of_mem _ hx)), Tr.get_set _ _ _ _ _ (by omega), if_neg (hm _ (List.mem_cons_self ..))]
    · rcases List.mem_cons.1 hx with rfl | hx
      · refine ⟨cont, w, k, ?_, h1, h7, h2, h3⟩
        rw [h9 (rn b) (fun x hx he => hn.1 (List.mem_map.2 ⟨x, hx, he.symm⟩)), Tr.get_set _ _ _ _ _ (by omega), if_pos rfl]
      · exact h10 x hx

theorem conBs_sound {rn : Nat → Nat} {q rT : RM} {M : Fnd} (hv : Via rn q rT) : ∀ {l : List BSh} {k : Nat} {ds : List Dyn} {h : Tr Blk}, NewsOk q r s H M k l ds → (∀ i j, i < l.length → j < l.length → rn (k + i) = rn (k + j) → i = j) →
    ∃ h', conBs rn k l ds h = some h' ∧ (∀ m, (∀ i, i < l.length → m ≠ rn (k + i)) → h'.get m = h.get m) ∧
      ∀ i b, l[i]? = some b → ∃ c w src, h'.get (rn (k + i)) = some ⟨b.own, c⟩ ∧ q (k + i) = some w ∧ BR rT H w c ∧ M.get (k + i) = some src ∧ Orig r s b.own src w
  | [], k, ds, h, hn, _ => by
    simp only [NewsOk] at hn
    subst hn
    exact ⟨h, rfl, fun m _ => rfl, fun i b hi => by simp at hi⟩
  | b :: l, k, ds, h, hn, hinj => by
    obtain ⟨d1, d2, w, src, rfl, h1, h2, h3, h4, h5⟩ := hn
    obtain ⟨cont, h6, h7⟩ := conC_sound hv h3
    have hsh : ∀ i, k + 1 + i = k + (i + 1) := fun i => by omega
    obtain ⟨h', h8, h9, h10⟩ := conBs_sound hv (h := h.set (rn k + 1) (rn k) (some ⟨b.own, cont⟩)) h5 (fun i j hi hj he => by
      rw [hsh, hsh] at he
      have := hinj (i + 1) (j + 1) (by simp; omega) (by simp; omega) he
      omega)
    refine ⟨h', by simp only [conBs, h6, h8], fun m hm => ?_, fun i b' hi => ?_⟩
    · rw [h9 m (fun i hi => by rw [hsh]; exact hm (i + 1) (by simp; omega)), Tr.get_set _ _ _ _ _ (by omega), if_neg (by have := hm 0 (by simp); simpa using this)]
    · cases i with
      | zero =>
        simp only [List.getElem?_cons_zero, Option.some.injEq] at hi
        subst hi
        refine ⟨cont, w, src, ?_, h2, h7, h1, h4⟩
        rw [Nat.add_zero, h9 (rn k) (fun i hi he => by
          rw [hsh] at he
          have := hinj 0 (i + 1) (by simp) (by simp; omega) (by simpa using he)
          omega), Tr.get_set _ _ _ _ _ (by omega), if_pos rfl]
      | succ i =>
        simp only [List.getElem?_cons_succ] at hi
        have := h10 i b' hi
        rwa [hsh] at this

theorem nodupN_iff : ∀ {l : List Nat}, nodupN l = true → l.Nodup
  | [], _ => List.nodup_nil
  | x :: l, h => by
    simp only [nodupN, Bool.and_eq_true, Bool.not_eq_true'] at h
    refine List.nodup_cons.2 ⟨fun hx => ?_, nodupN_iff h.2⟩
    rw [inL_iff.2 hx] at h
    simp at h

theorem OldsOk.on {q q' : RM} : ∀ {l : List (Nat × CSh)} {ds : List Dyn}, (∀ k ∈ refsO l, ∀ w, q k = some w → q' k = some w) → OldsOk q r s H l ds → OldsOk q' r s H l ds
  | [], ds, _, k => k
  | (b, c) :: l, ds, h, ⟨d1, d2, w, k, h1, h2, h3, h4, h5, h6⟩ =>
    ⟨d1, d2, w, k, h1, h2, h3, h4, DB.on (fun k hk => h k (List.mem_append.2 (.inl hk))) h5, OldsOk.on (fun k hk => h k (List.mem_append.2 (.inr hk))) h6⟩

theorem NewsOk.on {q q' : RM} {M : Fnd} : ∀ {l : List BSh} {k : Nat} {ds : List Dyn}, (∀ k ∈ refsB l, ∀ w, q k = some w → q' k = some w) → (∀ i, i < l.length → q' (k + i) = q (k + i)) → NewsOk q r s H M k l ds → NewsOk q' r s H M k l ds
  | [], k, ds, _, _, g => g
  | b :: l, k, ds, h, hk, ⟨d1, d2, w, src, h1, h2, h3, h4, h5, h6⟩ => by
    refine ⟨d1, d2, w, src, h1, h2, ?_, DB.on (fun k hk => h k (List.mem_append.2 (.inl hk))) h4, h5, NewsOk.on (fun k hk => h k (List.mem_append.2 (.inr hk))) (fun i hi => ?_) h6⟩
    · have := hk 0 (by simp)
      rw [Nat.add_zero] at this
      rw [this]; exact h3
    · have := hk (i + 1) (by simp; omega)
      rwa [show k + (i + 1) = k + 1 + i by omega] at this

/-! ### a state told -/
/-- what is told of a state, relative to another one -/
structure Told (q : RM) (r : RM) (s0 s : St) (e : Env) (H : Heap) (sh : Shape) (M : Fnd) (ds : List Dyn) : Prop where
  parts : ∃ d1 d2 d3 us, ds = d1 ++ (d2 ++ d3) ∧ RegsAre e sh.regs us ∧ DRs q (sh.regs.map (·.2)) d1 us ∧ OldsOk q r s H sh.old d2 ∧ NewsOk q r s H M s0.next sh.new d3
  low : ∀ k, k < s0.next → q k = r k
  high : ∀ k, s0.next + sh.new.length ≤ k → q k = none
  apart : apartM s s0.next sh.gone M s0.next sh.new [] = true
  log : logOk s0 s (sh.old.map (·.1) ++ sh.gone) = true
  nodup : (sh.old.map (·.1) ++ sh.gone).Nodup
  below : ∀ x ∈ sh.old.map (·.1) ++ sh.gone, x < s0.next

theorem absS_sound (h : Rel P r s e H) {s0 : St} {sh : Shape} {y : HL sh.sig} (ha : absS s0 s sh = some (true, y)) : ∃ q M, Told q r s0 s e H sh M (ofHL sh.sig y) := by
  unfold absS at ha
  split at ha
  · simp at ha
  rename_i vs hvs
  split at ha
  · simp at ha
  rename_i x hx
  split at ha
  · simp at ha
  rename_i o ho
  split at ha
  · simp at ha
  rename_i z hz
  obtain ⟨hb, ha⟩ := bif_some' ha
  split at ha
  · rename_i w hw
    simp only [Option.some.injEq, Prod.mk.injEq, Bool.and_eq_true] at ha
    obtain ⟨⟨g1, g2, g3⟩, rfl⟩ := ha
    simp only [Bool.and_eq_true] at hb
    obtain ⟨⟨⟨⟨hlt, hap⟩, hlog⟩, hnd⟩, hbe⟩ := hb
    have hrl : ∀ k ∈ sh.refs, k < s0.next + sh.new.length := fun k hk => blt_iff.1 (List.all_eq_true.1 hlt k hk)
    unfold Shape.refs at hrl
    obtain ⟨us, k1, k2⟩ := getRegs_sound h hvs
    obtain ⟨a1, a2, _⟩ := absRs_sound (bl := sh.new) h hx
    have m1 := (absRs_mok hx).1 k2 (MOk.nil r)
    obtain ⟨b1, b2, b3⟩ := absOld_sound (bl := sh.new) (base := s0.next) h ho m1
    obtain ⟨c1, c2, c3⟩ := absBs_sound (bl := sh.new) (base := s0.next) h (Nat.le_refl _) (by simp) hz b2
    have hlow : ∀ k w, k < s0.next + sh.new.length → newR r s0.next sh.new z.M k = some w → (fun k => if k < s0.next + sh.new.length then newR r s0.next sh.new z.M k else none) k = some w := by
      intro k w hk hw
      simp only [if_pos hk]
      exact hw
    have hon : ∀ l : List Nat, (∀ k ∈ l, k ∈ refsL (sh.regs.map (·.2)) ++ (refsO sh.old ++ refsB sh.new)) → ∀ k ∈ l, ∀ w, newR r s0.next sh.new z.M k = some w → (fun k => if k < s0.next + sh.new.length then newR r s0.next sh.new z.M k else none) k = some w :=
      fun l hl k hk w hw => hlow k w (hrl k (hl k hk)) hw
    refine ⟨fun k => if k < s0.next + sh.new.length then newR r s0.next sh.new z.M k else none, z.M, ?_, fun k hk => ?_, fun k hk => ?_, hap, hlog, nodupN_iff hnd, fun x hx => blt_iff.1 (List.all_eq_true.1 hbe x hx)⟩
    · refine ⟨x.ds, o.ds, z.ds, us, toHL_sound hw, k1, DRs.on (hon _ fun k hk => by simp [hk]) (a2 g1 k2 (b1.trans c1)), OldsOk.on (hon _ fun k hk => by simp [hk]) (b3 g2 c1), NewsOk.on (hon _ fun k hk => by simp [hk]) (fun i hi => if_pos (by omega)) (c3 g3 (SubM.refl _))⟩
    · show (if k < s0.next + sh.new.length then newR r s0.next sh.new z.M k else none) = r k
      rw [if_pos (by omega), newR, if_pos hk]
    · show (if k < s0.next + sh.new.length then newR r s0.next sh.new z.M k else none) = none
      rw [if_neg (by omega)]
  · simp at ha

/-- a state put together again -/
theorem join_sound {r0 : RM} {s0 : St} {e0 : Env} {H0 : Heap} {P0 : Fr} (h0 : Rel P0 r0 s0 e0 H0) (h : Rel P r s e H) (hext : Ext r0 r) (hkp : Kp s0 s) {kill : List Nat} (hkill : ∀ t, t ∉ kill → lk e t = lk e0 t) {sh : Shape} {y : HL sh.sig}
    (ha : absS s0 s sh = some (true, y)) : ∃ s1 r1, conS s0 kill sh y = some s1 ∧ Rel P r1 s1 e H ∧ Ext r0 r1 ∧ Kp s0 s1 ∧ (∃ M, Told r1 r s0 s e H sh M (ofHL sh.sig y)) ∧
      (∀ i b, sh.new[i]? = some b → ∃ c, s1.heap.get (s0.next + i) = some ⟨b.own, c⟩) ∧ (∀ x ∈ sh.old, ∃ c, s1.heap.get x.1 = some ⟨true, c⟩) := by
  obtain ⟨q, M, ht⟩ := absS_sound h ha
  obtain ⟨d1, d2, d3, us, hds, hregs, hdrs, holds, hnews⟩ := ht.parts
  have hvia : Via id q q := fun k w hk => hk
  obtain ⟨vs, hvs, hvr⟩ := conRs_sound hvia hdrs
  have hnd1 : (sh.old.map fun x => id x.1).Nodup := (List.nodup_append.1 ht.nodup).1
  obtain ⟨hp1, c1, c2, c3⟩ := conOld_sound hvia (h := delB id sh.gone s0.heap) holds hnd1
  obtain ⟨hp2, n1, n2, n3⟩ := conBs_sound hvia (h := hp1) hnews (fun i j _ _ he => by simpa using he)
  have hcon : conS s0 kill sh y = some ⟨conE sh.regs vs (delE kill s0.env), hp2, s0.next + sh.new.length, s0.start, (sh.old.map (·.1) ++ sh.gone) ++ s0.log⟩ := by
    unfold conS
    rw [hds, hvs]
    simp only
    rw [c1]
    simp only [n1]
  have hq0 : Ext r0 q := fun b w hb => by rw [ht.low b (h0.dm b w hb)]; exact hext b w hb
  obtain ⟨lg, hl1, hl2⟩ := hkp.log
  have hlogl : ∀ x ∈ lg, s0.next ≤ x ∨ x ∈ sh.old.map (·.1) ++ sh.gone := by
    have := ht.log
    unfold logOk at this
    rw [hl1, show (lg ++ s0.log).length - s0.log.length = lg.length by simp, List.take_left, List.all_eq_true] at this
    intro x hx
    have := this x hx
    simpa only [Bool.or_eq_true, Nat.ble_eq, inL_iff] using this
  -- blocks that are kept
  have hkeep : ∀ b, b < s0.next → b ∉ sh.old.map (·.1) ++ sh.gone → hp2.get b = s0.heap.get b ∧ s.heap.get b = s0.heap.get b := by
    intro b hb hnt
    refine ⟨?_, hl2 b hb (fun hx => by rcases hlogl b hx with h | h; omega; exact hnt h)⟩
    rw [n2 b (fun i hi => by simp; omega), c2 b (fun x hx he => hnt (List.mem_append.2 (.inl (List.mem_map.2 ⟨x, hx, he.symm⟩)))),
      delB_get (fun x hx he => hnt (List.mem_append.2 (.inr (by simpa using he ▸ hx))))]
  have hgone : ∀ b ∈ sh.gone, hp2.get b = none := by
    intro b hb
    have hbl := ht.below b (List.mem_append.2 (.inr hb))
    rw [n2 b (fun i hi => by simp; omega), c2 b (fun x hx he => by
      have := (List.nodup_append.1 ht.nodup).2.2 x.1 (List.mem_map.2 ⟨x, hx, rfl⟩) b hb
      exact this he.symm)]
    exact delB_none (rn := id) hb
  -- where a block of the new state comes from
  have hcase : ∀ b k, hp2.get b = some k →
      (b < s0.next ∧ b ∉ sh.old.map (·.1) ++ sh.gone ∧ s0.heap.get b = some k ∧ s.heap.get b = some k) ∨
      (b < s0.next ∧ b ∈ sh.old.map (·.1) ∧ k.own = true ∧ ∃ w k', r b = some w ∧ BR q H w k.c ∧ s.heap.get b = some k' ∧ k'.own = true) ∨
      (∃ i bs, b = s0.next + i ∧ sh.new[i]? = some bs ∧ k.own = bs.own ∧ ∃ w src, q b = some w ∧ BR q H w k.c ∧ M.get b = some src ∧ Orig r s bs.own src w) := by
    intro b k hk
    rcases Nat.lt_or_ge b s0.next with hb | hb
    · by_cases hto : b ∈ sh.old.map (·.1)
      · obtain ⟨x, hx, rfl⟩ := List.mem_map.1 hto
        obtain ⟨c, w, k', g1, g2, g3, g4, g5⟩ := c3 x hx
        have hg1 : hp1.get x.1 = some ⟨true, c⟩ := g1
        rw [n2 x.1 (fun i hi => by simp; omega), hg1] at hk
        obtain rfl := Option.some.inj hk
        exact .inr (.inl ⟨hb, hto, rfl, w, k', g2, g3, g4, g5⟩)
      · by_cases htg : b ∈ sh.gone
        · rw [hgone b htg] at hk; simp at hk
        · have hnt : b ∉ sh.old.map (·.1) ++ sh.gone := by rw [List.mem_append, not_or]; exact ⟨hto, htg⟩
          obtain ⟨k1, k2⟩ := hkeep b hb hnt
          exact .inl ⟨hb, hnt, by rw [← k1]; exact hk, by rw [k2, ← k1]; exact hk⟩
    · obtain ⟨i, rfl⟩ : ∃ i, b = s0.next + i := ⟨b - s0.next, by omega⟩
      rcases Nat.lt_or_ge i sh.new.length with hi | hi
      · obtain ⟨c, w, src, g1, g2, g3, g4, g5⟩ := n3 i sh.new[i] (List.getElem?_eq_getElem hi)
        have hg1 : hp2.get (s0.next + i) = some ⟨(sh.new[i]).own, c⟩ := g1
        rw [hg1] at hk
        obtain rfl := Option.some.inj hk
        exact .inr (.inr ⟨i, sh.new[i], rfl, List.getElem?_eq_getElem hi, rfl, w, src, g2, g3, g4, g5⟩)
      · exfalso
        rw [n2 _ (fun j hj => by simp; omega), c2 _ (fun x hx he => by
          have := ht.below x.1 (List.mem_append.2 (.inl (List.mem_map.2 ⟨x, hx, rfl⟩)))
          simp at he; omega), delB_get (fun x hx he => by
          have := ht.below x (List.mem_append.2 (.inr hx))
          simp at he; omega)] at hk
        obtain ⟨_, _, _, hlt, _⟩ := h0.br _ _ hk
        omega
  -- its source in the state that is told
  have hsrc : ∀ b k, hp2.get b = some k → ∃ w, q b = some w ∧ BR q H w k.c ∧ b < s0.next + sh.new.length ∧ (w.virt = true ∨ ∃ c k' w0, s.heap.get c = some k' ∧ (k.own = true → k'.own = true) ∧ r c = some w0 ∧ w0.virt = false ∧ w.virt = false ∧ w.hb = w0.hb) := by
    intro b k hk
    rcases hcase b k hk with ⟨h1, h2, h3, h4⟩ | ⟨h1, h2, h3, w, k', h4, h5, h6, h7⟩ | ⟨i, bs, rfl, h1, h2, w, src, h3, h4, h5, h6⟩
    · obtain ⟨w0, g1, g2, _⟩ := h0.br b k h3
      obtain ⟨w, g3, g4, _⟩ := h.br b k h4
      refine ⟨w, by rw [ht.low b h1]; exact g3, BR.swap hext hq0 g2 g4, by omega, ?_⟩
      cases hv : w.virt with
      | true => exact .inl rfl
      | false => exact .inr ⟨b, k, w, h4, fun h => h, g3, hv, rfl, rfl⟩
    · refine ⟨w, by rw [ht.low b h1]; exact h4, h5, by omega, ?_⟩
      cases hv : w.virt with
      | true => exact .inl rfl
      | false => exact .inr ⟨b, k', w, h6, fun _ => h7, h4, hv, rfl, rfl⟩
    · have hi : i < sh.new.length := by
        rcases Nat.lt_or_ge i sh.new.length with h | h
        · exact h
        · rw [List.getElem?_eq_none h] at h1; simp at h1
      refine ⟨w, h3, h4, by omega, ?_⟩
      rcases h6 with h6 | ⟨c, k', w0, _, g2, g3, g4, g5, g6, g7⟩
      · exact .inl h6
      · exact .inr ⟨c, k', w0, g2, fun h => g3 (h2 ▸ h), g4, g5, g6, g7⟩
  obtain ⟨ap1, ap2⟩ := apartM_sound ht.apart
  refine ⟨_, q, hcon, ⟨?_, fun b k hk => ?_, fun b w hb => ?_, ?_, h.nx, h.ro, h.fr, Nat.le_trans h0.st (Nat.le_add_right ..), h.rn, ?_⟩, hq0, ⟨Nat.le_add_right .., rfl, _, rfl, fun b hb hn => (hkeep b hb hn).1⟩, ⟨M, ht⟩,
    fun i b hi => (by obtain ⟨c, w, src, g1, _⟩ := n3 i b hi; exact ⟨c, g1⟩), fun x hx => (by
      obtain ⟨c, w, k', g1, _⟩ := c3 x hx
      have hbl := ht.below x.1 (List.mem_append.2 (.inl (List.mem_map.2 ⟨x, hx, rfl⟩)))
      exact ⟨c, by rw [n2 x.1 (fun i hi => by simp; omega)]; exact g1⟩)⟩
  · -- registers
    refine conE_sound hregs hvr (fun t v hv => ?_)
    obtain ⟨g1, g2⟩ := delE_get hv
    obtain ⟨u, g3, g4⟩ := h0.er t v g2
    exact ⟨u, by rw [hkill t g1]; exact g3, g4.mono hq0⟩
  · obtain ⟨w, g1, g2, g3, g4⟩ := hsrc b k hk
    refine ⟨w, g1, g2, g3, fun hv => ?_⟩
    rcases g4 with g4 | ⟨c, k', w0, g5, g6, g7, g8, g9, g10⟩
    · rw [hv] at g4; simp at g4
    · obtain ⟨w1, a1, a2, a3, a4⟩ := h.br c k' g5
      rw [g7] at a1
      obtain rfl := Option.some.inj a1
      obtain ⟨b1, b2⟩ := a4 g8
      rw [g10]
      exact ⟨b1, fun ho => b2 (g6 ho)⟩
  · rcases Nat.lt_or_ge b (s0.next + sh.new.length) with h | h
    · exact h
    · rw [ht.high b h] at hb; simp at hb
  · -- apart
    intro b b' k k' w w' hne hk hk' hown hw hw' hv hv' heq
    have hpair : ∀ b k w, hp2.get b = some k → q b = some w → w.virt = false → ∃ c kc w0, s.heap.get c = some kc ∧ (k.own = true → kc.own = true) ∧ r c = some w0 ∧ w0.virt = false ∧ w.hb = w0.hb ∧
        ((c = b ∧ b < s0.next ∧ b ∉ sh.gone) ∨ (∃ i bs src, b = s0.next + i ∧ sh.new[i]? = some bs ∧ k.own = bs.own ∧ M.get b = some src ∧ srcB src = some c)) := by
      intro b k w hk hw hv
      rcases hcase b k hk with ⟨h1, h2, h3, h4⟩ | ⟨h1, h2, h3, w1, k1, h4, h5, h6, h7⟩ | ⟨i, bs, rfl, h1, h2, w1, src, h3, h4, h5, h6⟩
      · obtain ⟨w1, g3, _⟩ := h.br b k h4
        rw [ht.low b h1, g3] at hw
        obtain rfl := Option.some.inj hw
        exact ⟨b, k, w1, h4, fun h => h, g3, hv, rfl, .inl ⟨rfl, h1, fun hg => h2 (List.mem_append.2 (.inr hg))⟩⟩
      · rw [ht.low b h1, h4] at hw
        obtain rfl := Option.some.inj hw
        exact ⟨b, k1, w1, h6, fun _ => h7, h4, hv, rfl, .inl ⟨rfl, h1, fun hg => (List.nodup_append.1 ht.nodup).2.2 b h2 b hg rfl⟩⟩
      · rw [h3] at hw
        obtain rfl := Option.some.inj hw
        rcases h6 with h6 | ⟨c, kc, w0, g1, g2, g3, g4, g5, g6, g7⟩
        · rw [hv] at h6; simp at h6
        · exact ⟨c, kc, w0, g2, fun h => g3 (h2 ▸ h), g4, g5, g7, .inr ⟨i, bs, src, rfl, h1, h2, h5, g1⟩⟩
    obtain ⟨c, kc, w0, a1, a2, a3, a4, a5, a6⟩ := hpair b k w hk hw hv
    obtain ⟨c', kc', w0', b1, b2, b3, b4, b5, b6⟩ := hpair b' k' w' hk' hw' hv'
    by_cases hcc : c = c'
    · subst hcc
      rw [a1] at b1
      obtain rfl := Option.some.inj b1
      rcases a6 with ⟨a6, a7, a8⟩ | ⟨i, bs, src, rfl, a6, a7, a8, a9⟩
      · rcases b6 with ⟨b6, _⟩ | ⟨i', bs', src', rfl, b6, b7, b8, b9⟩
        · exact hne (a6.symm.trans b6)
        · subst a6
          have := (ap1 i' bs' src' c b6 b8 b9).1
          rcases this with h1 | h1 | ⟨h1, k1, h2, h3⟩
          · omega
          · exact a8 h1
          · rw [a1] at h2
            obtain rfl := Option.some.inj h2
            rcases hown with ho | ho
            · have := a2 ho; rw [h3] at this; simp at this
            · rw [b7, h1] at ho; simp at ho
      · rcases b6 with ⟨b6, b7, b8⟩ | ⟨i', bs', src', rfl, b6, b7, b8, b9⟩
        · subst b6
          have := (ap1 i bs src c a6 a8 a9).1
          rcases this with h1 | h1 | ⟨h1, k1, h2, h3⟩
          · omega
          · exact b8 h1
          · rw [a1] at h2
            obtain rfl := Option.some.inj h2
            rcases hown with ho | ho
            · rw [a7, h1] at ho; simp at ho
            · have := b2 ho; rw [h3] at this; simp at this
        · have hii : i ≠ i' := fun h => hne (by rw [h])
          rcases Nat.lt_or_ge i i' with hlt | hge
          · obtain ⟨h1, h2⟩ := ap2 i i' bs bs' src src' c hlt a6 b6 a8 b8 a9 b9
            rcases hown with ho | ho
            · rw [a7, h1] at ho; simp at ho
            · rw [b7, h2] at ho; simp at ho
          · obtain ⟨h1, h2⟩ := ap2 i' i bs' bs src' src c (by omega) b6 a6 b8 a8 b9 a9
            rcases hown with ho | ho
            · rw [a7, h2] at ho; simp at ho
            · rw [b7, h1] at ho; simp at ho
    · refine h.ap c c' kc kc' w0 w0' hcc a1 b1 ?_ a3 b3 a4 b4 (by rw [← a5, ← b5]; exact heq)
      rcases hown with ho | ho
      · exact .inl (a2 ho)
      · exact .inr (b2 ho)
  · -- the log
    obtain ⟨l, g1, g2, g3⟩ := h.lg
    refine ⟨l, g1, g2, fun b k w hk hw hv hlt hnl => ?_⟩
    simp only at hlt hnl
    rw [List.mem_append, not_or] at hnl
    have hb : b < s0.next := Nat.lt_of_lt_of_le hlt h0.st
    obtain ⟨k1, k2⟩ := hkeep b hb hnl.1
    rw [k1, ← k2] at hk
    rw [ht.low b hb] at hw
    refine g3 b k w hk hw hv (by rw [hkp.start]; exact hlt) ?_
    rw [hl1, List.mem_append, not_or]
    exact ⟨fun hx => by rcases hlogl b hx with h | h; omega; exact hnl.1 h, hnl.2⟩

end
end Go.Sh
