/- Shapes: blocks told out of a state, and put into another one. No condition. -/
import Derived.Test.YtipdancojcdioaaShL
namespace Go.Sh
set_option linter.unusedVariables false
set_option linter.unusedSimpArgs false
open Go Go.Ev

/-- windows are within their blocks -/
def MOk (r : RM) (M : Fnd) : Prop := ∀ k b o l, M.get k = some (.win b o l) → ∃ w, r b = some w ∧ o + l ≤ w.len

theorem MOk.nil (r : RM) : MOk r .nil := fun k b o l h => by simp [Tr.get] at h

theorem addB_mok {r : RM} {base : Nat} {M M' : Fnd} {k : Nat} {x : Src} (h : addB base M k x = some M') (hx : ∀ b o l, x = .win b o l → ∃ w, r b = some w ∧ o + l ≤ w.len) (hM : MOk r M) : MOk r M' := by
  have key : ∀ {M'}, addM M k x = some M' → MOk r M' := by
    intro M' h
    unfold addM at h
    split at h
    · obtain rfl := Option.some.inj h
      intro j b o l hj
      rw [Tr.get_set _ _ _ _ _ (by omega)] at hj
      split at hj
      · exact hx b o l (Option.some.inj hj)
      · exact hM j b o l hj
    · split at h
      · obtain ⟨_, h⟩ := bif_some' h
        obtain rfl := Option.some.inj h
        exact hM
      · simp at h
    · simp at h
  unfold addB at h
  rcases bif_or h with ⟨_, h1⟩ | ⟨_, h1⟩
  · split at h1
    · obtain ⟨_, h2⟩ := bif_some' h1
      obtain rfl := Option.some.inj h2
      exact hM
    · simp at h1
  · exact key h1

section
variable {P : Fr} {r : RM} {s : St} {e : Env} {H : Heap}

mutual
theorem absR_mok {base : Nat} : ∀ {sh : RSh} {v : SV} {M : Fnd} {a : Ab} {u : AV}, absR s base sh v M = some a → VR r v u → MOk r M → MOk r a.M
  | .ty t, v, M, a, u, ha, hv, hM => by
    simp only [absR] at ha
    obtain ⟨_, ha⟩ := bif_some' ha
    split at ha
    · obtain rfl := Option.some.inj ha; exact hM
    · simp at ha
  | .nilp, v, M, a, u, ha, hv, hM => by
    cases v <;> simp only [absR] at ha <;> first | (simp at ha; done) | skip
    obtain rfl := Option.some.inj ha; exact hM
  | .nils, v, M, a, u, ha, hv, hM => by
    cases v <;> simp only [absR] at ha <;> first | (simp at ha; done) | skip
    obtain rfl := Option.some.inj ha; exact hM
  | .cst k n, v, M, a, u, ha, hv, hM => by
    simp only [absR] at ha
    split at ha
    · split at ha
      · obtain ⟨_, ha⟩ := bif_some' ha
        obtain rfl := Option.some.inj ha; exact hM
      · simp at ha
    · simp at ha
  | .nilf, v, M, a, u, ha, hv, hM => by
    cases v <;> simp only [absR] at ha <;> first | (simp at ha; done) | skip
    obtain rfl := Option.some.inj ha; exact hM
  | .ptr k, v, M, a, u, ha, hv, hM => by
    cases v <;> simp only [absR] at ha <;> first | (simp at ha; done) | skip
    obtain ⟨hb, ha⟩ := bif_some' ha
    split at ha
    · rename_i M' hM'
      obtain rfl := Option.some.inj ha
      exact addB_mok hM' (fun _ _ _ h => by simp at h) hM
    · simp at ha
  | .sla k ex, v, M, a, u, ha, hv, hM => by
    simp only [absR] at ha
    split at ha
    · obtain ⟨hb, ha⟩ := bif_some' ha
      split at ha
      · rename_i M' hM'
        obtain rfl := Option.some.inj ha
        exact addB_mok hM' (fun _ _ _ h => by simp at h) hM
      · simp at ha
    · split at ha
      · rename_i M' hM'
        obtain rfl := Option.some.inj ha
        exact addB_mok hM' (fun _ _ _ h => by simp at h) hM
      · simp at ha
    · rename_i b o l c
      split at ha
      · rename_i M' hM'
        have key : MOk r M' := addB_mok hM' (fun b' o' l' h => by
          simp only [Src.win.injEq] at h
          obtain ⟨rfl, rfl, rfl⟩ := h
          obtain ⟨w, g1, g2, _⟩ := hv
          exact ⟨w, g1, g2⟩) hM
        split at ha
        · obtain rfl := Option.some.inj ha; exact key
        · cases ex <;> simp only at ha <;> first | (simp at ha; done) | (obtain rfl := Option.some.inj ha; exact key)
        · cases ex <;> simp only at ha <;> first | (simp at ha; done) | (obtain rfl := Option.some.inj ha; exact key)
        · cases ex <;> simp only at ha <;> first | (simp at ha; done) | (obtain rfl := Option.some.inj ha; exact key)
      · simp at ha
    · simp at ha
  | .slw k, v, M, a, u, ha, hv, hM => by
    simp only [absR] at ha
    split at ha
    · split at ha
      · rename_i M' hM'
        obtain rfl := Option.some.inj ha
        exact addB_mok hM' (fun _ _ _ h => by simp at h) hM
      · simp at ha
    · split at ha
      · rename_i M' l hM' hl
        obtain rfl := Option.some.inj ha
        exact addB_mok hM' (fun _ _ _ h => by simp at h) hM
      · simp at ha
    · simp at ha
  | .segs rs, v, M, a, u, ha, hv, hM => by
    simp only [absR] at ha
    obtain ⟨_, ha⟩ := bif_some' ha
    exact (absRs_mok ha).2 hv.flat hM
  | .tup rs, v, M, a, u, ha, hv, hM => by
    cases v <;> simp only [absR] at ha <;> first | (simp at ha; done) | skip
    obtain ⟨us, rfl, hv⟩ := hv
    exact (absRs_mok ha).1 hv hM
  | .fn f x y, v, M, a, u, ha, hv, hM => by
    cases v <;> simp only [absR] at ha <;> first | (simp at ha; done) | skip
    obtain ⟨hf, ha⟩ := bif_some' ha
    split at ha
    · rename_i p hp
      split at ha
      · rename_i q hq
        obtain rfl := Option.some.inj ha
        obtain ⟨us, ws, rfl, hv1, hv2⟩ := hv
        exact (absRs_mok hq).1 hv2 ((absRs_mok hp).1 hv1 hM)
      · simp at ha
    · simp at ha
theorem absRs_mok {base : Nat} : ∀ {rs : List RSh} {vs : List SV} {M : Fnd} {a : Ab}, absRs s base rs vs M = some a → (∀ {us : List AV}, VRs r vs us → MOk r M → MOk r a.M) ∧ (∀ {us : List AV}, CRs r vs us → MOk r M → MOk r a.M)
  | [], vs, M, a, ha => by
    cases vs <;> simp only [absRs] at ha <;> first | (simp at ha; done) | skip
    obtain rfl := Option.some.inj ha
    exact ⟨fun _ h => h, fun _ h => h⟩
  | x :: rs, vs, M, a, ha => by
    cases vs <;> simp only [absRs] at ha <;> first | (simp at ha; done) | skip
    split at ha
    · rename_i p hp
      split at ha
      · rename_i q hq
        obtain rfl := Option.some.inj ha
        refine ⟨fun {us} hv hM => ?_, fun {us} hv hM => ?_⟩
        · obtain ⟨u, us', rfl, hv1, hv2⟩ := hv
          exact (absRs_mok hq).1 hv2 (absR_mok hp hv1 hM)
        · obtain ⟨u, us', rfl, hv1, hv2⟩ := hv
          exact (absRs_mok hq).2 hv2 (absR_mok hp hv1 hM)
      · simp at ha
    · simp at ha
end

/-! ### blocks -/
def zc : CSh → Nat
  | .many t => t.size
  | .one _ => 0

/-- where a block comes from -/
def Orig (r : RM) (s : St) (own : Bool) (src : Src) (w : W) : Prop :=
  w.virt = true ∨ ∃ b k w0, srcB src = some b ∧ s.heap.get b = some k ∧ (own = true → k.own = true) ∧ r b = some w0 ∧ w0.virt = false ∧ w.virt = false ∧ w.hb = w0.hb

theorem orig_blk (r : RM) (s : St) {own : Bool} {b : Nat} {k : Blk} {w : W} (h1 : s.heap.get b = some k) (h2 : own = true → k.own = true) (h3 : r b = some w) : Orig r s own (.blk b) w := by
  cases hv : w.virt with
  | true => exact .inl hv
  | false => exact .inr ⟨b, k, w, rfl, h1, h2, h3, hv, hv, rfl⟩

theorem own_imp {own own' : Bool} (h : (!own || own') = true) : own = true → own' = true := by
  cases own <;> cases own' <;> simp_all

theorem absC_sound (h : Rel P r s e H) {base : Nat} {bl : List BSh} {own : Bool} {c : CSh} {src : Src} {M : Fnd} {a : Ab} (ha : absC s base own c src M = some a) (hm : MOk r M) (hsrc : ∀ b o l, src = .win b o l → ∃ w, r b = some w ∧ o + l ≤ w.len) :
    SubM M a.M ∧ MOk r a.M ∧ ∀ {Mf : Fnd}, a.g = true → SubM a.M Mf → ∃ w, srcW r (zc c) src = some w ∧ DB (newR r base bl Mf) H w c a.ds ∧ Orig r s own src w := by
  unfold absC at ha
  split at ha
  · rename_i sh b
    split at ha
    · rename_i own' v hk
      obtain ⟨ho, ha⟩ := bif_some' ha
      obtain ⟨w, g1, g2, g3, g4⟩ := h.br b _ hk
      obtain ⟨g0, u, pre, post, g5, g6, g7⟩ := g2
      obtain ⟨h1, h2⟩ := absR_sound h ha
      refine ⟨h1, absR_mok ha g5 hm, fun {Mf} hg hs => ⟨w, g1, ⟨g0, u, pre, post, h2 hg g5 hs, g6, g7⟩, orig_blk r s hk (own_imp ho) g1⟩⟩
    · simp at ha
  · rename_i t b
    split at ha
    · rename_i own' t' xs hk
      obtain ⟨ho, ha⟩ := bif_some' ha
      split at ha
      · rename_i ys hys
        obtain rfl := Option.some.inj ha
        obtain ⟨rfl, rfl⟩ := castL_sound hys
        obtain ⟨w, g1, g2, g3, g4⟩ := h.br b _ hk
        exact ⟨SubM.refl _, hm, fun {Mf} hg hs => ⟨w, g1, ⟨xs, rfl, g2⟩, orig_blk r s hk (own_imp ho) g1⟩⟩
      · simp at ha
    · simp at ha
  · rename_i t b o l
    split at ha
    · rename_i own' t' xs hk
      obtain ⟨ho, ha⟩ := bif_some' ha
      split at ha
      · rename_i ys hys
        obtain rfl := Option.some.inj ha
        obtain ⟨rfl, rfl⟩ := castL_sound hys
        obtain ⟨w, g1, g2, g3, g4⟩ := h.br b _ hk
        obtain ⟨w', g1', hle⟩ := hsrc b o l rfl
        rw [g1] at g1'
        obtain rfl := Option.some.inj g1'
        refine ⟨SubM.refl _, hm, fun {Mf} hg hs => ?_⟩
        obtain ⟨q1, q2, q3, q4⟩ := g2
        rw [q1] at hle
        have hlen : ((xs.drop o).take l).length = l := by rw [List.length_take, List.length_drop]; omega
        rcases q4 with ⟨q4, rfl⟩ | ⟨q4, pre, post, q5, q6⟩
        · refine ⟨⟨true, 0, 0, 0, w.size⟩, by simp only [srcW, g1, q4, cond_true], ⟨_, rfl, ?_⟩, .inl rfl⟩
          simp only [List.drop_nil, List.take_nil]
          exact ⟨rfl, q2, q3, .inl ⟨rfl, rfl⟩⟩
        · refine ⟨⟨false, w.hb, w.base + o * w.size, l, w.size⟩, by simp only [srcW, g1, q4, cond_false], ⟨_, rfl, ?_⟩, .inr ⟨b, _, w, rfl, hk, own_imp ho, g1, q4, rfl, rfl⟩⟩
          refine ⟨hlen.symm, q2, q3, .inr ⟨rfl, pre ++ (xs.take o).flatMap t'.cells, (xs.drop (o + l)).flatMap t'.cells ++ post, ?_, ?_⟩⟩
          · rw [q5]
            congr 1
            have e1 : xs = xs.take o ++ ((xs.drop o).take l ++ xs.drop (o + l)) := by
              rw [← List.drop_drop, List.take_append_drop, List.take_append_drop]
            conv => lhs; rw [e1]
            simp only [List.flatMap_append, List.append_assoc]
          · rw [List.length_append, q6, flatMap_length, List.length_take, Nat.min_eq_left (by omega), q2]
      · simp at ha
    · simp at ha
  · rename_i t
    obtain ⟨hz, ha⟩ := bif_some' ha
    obtain rfl := Option.some.inj ha
    refine ⟨SubM.refl _, hm, fun {Mf} hg hs => ⟨⟨true, 0, 0, 0, t.size⟩, rfl, ⟨[], rfl, rfl, rfl, blt_iff.1 hz, .inl ⟨rfl, rfl⟩⟩, .inl rfl⟩⟩
  · simp at ha

/-- blocks that keep their numbers -/
def OldsOk (q : RM) (r : RM) (s : St) (H : Heap) : List (Nat × CSh) → List Dyn → Prop
  | [], ds => ds = []
  | (b, c) :: l, ds => ∃ d1 d2 w k, ds = d1 ++ d2 ∧ r b = some w ∧ s.heap.get b = some k ∧ k.own = true ∧ DB q H w c d1 ∧ OldsOk q r s H l d2

/-- new blocks -/
def NewsOk (q : RM) (r : RM) (s : St) (H : Heap) (M : Fnd) : Nat → List BSh → List Dyn → Prop
  | _, [], ds => ds = []
  | k, b :: l, ds => ∃ d1 d2 w src, ds = d1 ++ d2 ∧ M.get k = some src ∧ q k = some w ∧ DB q H w b.c d1 ∧ Orig r s b.own src w ∧ NewsOk q r s H M (k + 1) l d2

theorem absOld_sound (h : Rel P r s e H) {base : Nat} {bl : List BSh} : ∀ {l : List (Nat × CSh)} {M : Fnd} {a : Ab}, absOld s base l M = some a → MOk r M → SubM M a.M ∧ MOk r a.M ∧ ∀ {Mf : Fnd}, a.g = true → SubM a.M Mf → OldsOk (newR r base bl Mf) r s H l a.ds
  | [], M, a, ha, hm => by
    simp only [absOld, Option.some.injEq] at ha
    subst ha
    exact ⟨SubM.refl _, hm, fun _ _ => rfl⟩
  | (b, c) :: l, M, a, ha, hm => by
    simp only [absOld] at ha
    split at ha
    · rename_i p hp
      split at ha
      · rename_i q hq
        obtain rfl := Option.some.inj ha
        obtain ⟨h1, h2, h3⟩ := absC_sound (bl := bl) h hp hm (fun _ _ _ h => by simp at h)
        obtain ⟨h4, h5, h6⟩ := absOld_sound (bl := bl) h hq h2
        refine ⟨h1.trans h4, h5, fun {Mf} hg hs => ?_⟩
        simp only [Bool.and_eq_true] at hg
        obtain ⟨w, g1, g2, g3⟩ := h3 hg.1 (h4.trans hs)
        have hk : ∃ k, s.heap.get b = some k ∧ k.own = true := by
          unfold absC at hp
          split at hp
          · rename_i heq
            obtain rfl := Src.blk.inj heq
            split at hp
            · rename_i own' v hk
              obtain ⟨ho, _⟩ := bif_some' hp
              exact ⟨_, hk, by simpa using ho⟩
            · simp at hp
          · rename_i heq
            obtain rfl := Src.blk.inj heq
            split at hp
            · rename_i own' t' xs hk
              obtain ⟨ho, _⟩ := bif_some' hp
              exact ⟨_, hk, by simpa using ho⟩
            · simp at hp
          · rename_i heq; simp at heq
          · rename_i heq; simp at heq
          · simp at hp
        obtain ⟨k, hk1, hk2⟩ := hk
        exact ⟨_, _, w, k, rfl, g1, hk1, hk2, g2, h6 hg.2 hs⟩
      · simp at ha
    · simp at ha

theorem absBs_sound (h : Rel P r s e H) {base : Nat} {bl : List BSh} : ∀ {l : List BSh} {k : Nat} {M : Fnd} {a : Ab}, base ≤ k → bl.drop (k - base) = l → absBs s base k l M = some a → MOk r M → SubM M a.M ∧ MOk r a.M ∧ ∀ {Mf : Fnd}, a.g = true → SubM a.M Mf → NewsOk (newR r base bl Mf) r s H Mf k l a.ds
  | [], k, M, a, hbk, hd, ha, hm => by
    simp only [absBs, Option.some.injEq] at ha
    subst ha
    exact ⟨SubM.refl _, hm, fun _ _ => rfl⟩
  | b :: l, k, M, a, hbk, hd, ha, hm => by
    simp only [absBs] at ha
    split at ha
    · rename_i src hsrc
      split at ha
      · rename_i p hp
        split at ha
        · rename_i q hq
          obtain rfl := Option.some.inj ha
          have hd2 : bl.drop (k + 1 - base) = l := by
            rw [show k + 1 - base = (k - base) + 1 by omega, ← List.drop_drop, hd]; rfl
          have hz : zOf base bl k = zc b.c := by
            have : bl[k - base]? = some b := by
              have := congrArg (fun l : List BSh => l[0]?) hd
              simpa [List.getElem?_drop] using this
            unfold zOf
            rw [this]
            obtain ⟨own, c⟩ := b
            cases c <;> rfl
          obtain ⟨h1, h2, h3⟩ := absC_sound (bl := bl) h hp hm (fun b o l he => by subst he; exact hm k b o l hsrc)
          obtain ⟨h4, h5, h6⟩ := absBs_sound (bl := bl) h (by omega) hd2 hq h2
          refine ⟨h1.trans h4, h5, fun {Mf} hg hs => ?_⟩
          simp only [Bool.and_eq_true] at hg
          obtain ⟨w, g1, g2, g3⟩ := h3 hg.1 (h4.trans hs)
          have hMf : Mf.get k = some src := hs _ _ (h4 _ _ (h1 _ _ hsrc))
          refine ⟨_, _, w, src, rfl, hMf, ?_, g2, g3, h6 hg.2 hs⟩
          rw [newR_of (.inr ⟨hbk, hMf⟩), hz]
          exact g1
        · simp at ha
      · simp at ha
    · simp at ha

/-! ### which blocks may come from the same one -/
theorem inL_iff {l : List Nat} {x : Nat} : inL l x = true ↔ x ∈ l := by
  unfold inL
  rw [List.any_eq_true]
  constructor
  · rintro ⟨y, hy, h⟩
    rw [← Nat.eq_of_beq_eq_true h]
    exact hy
  · intro h
    exact ⟨x, h, Nat.beq_refl x⟩

theorem apartM_sound {base : Nat} {gone : List Nat} {M : Fnd} : ∀ {l : List BSh} {k : Nat} {seen : List (Nat × Bool)}, apartM s base gone M k l seen = true →
    (∀ i b src c, l[i]? = some b → M.get (k + i) = some src → srcB src = some c → (base ≤ c ∨ c ∈ gone ∨ (b.own = false ∧ ∃ q, s.heap.get c = some q ∧ q.own = false)) ∧ ∀ x ∈ seen, x.1 = c → x.2 = false ∧ b.own = false) ∧
    (∀ i j b b' src src' c, i < j → l[i]? = some b → l[j]? = some b' → M.get (k + i) = some src → M.get (k + j) = some src' → srcB src = some c → srcB src' = some c → b.own = false ∧ b'.own = false)
  | [], k, seen, h => ⟨fun i b src c hi => by simp at hi, fun i j b b' src src' c _ hi => by simp at hi⟩
  | b0 :: l, k, seen, h => by
    simp only [apartM] at h
    split at h
    · rename_i src0 hs0
      have step : ∀ seen', apartM s base gone M (k + 1) l seen' = true → (∀ x ∈ seen, x ∈ seen') → (∀ c, srcB src0 = some c → (c, b0.own) ∈ seen' ∧ (base ≤ c ∨ c ∈ gone ∨ (b0.own = false ∧ ∃ q, s.heap.get c = some q ∧ q.own = false)) ∧ ∀ x ∈ seen, x.1 = c → x.2 = false ∧ b0.own = false) →
          (∀ i b src c, (b0 :: l)[i]? = some b → M.get (k + i) = some src → srcB src = some c → (base ≤ c ∨ c ∈ gone ∨ (b.own = false ∧ ∃ q, s.heap.get c = some q ∧ q.own = false)) ∧ ∀ x ∈ seen, x.1 = c → x.2 = false ∧ b.own = false) ∧
          (∀ i j b b' src src' c, i < j → (b0 :: l)[i]? = some b → (b0 :: l)[j]? = some b' → M.get (k + i) = some src → M.get (k + j) = some src' → srcB src = some c → srcB src' = some c → b.own = false ∧ b'.own = false) := by
        intro seen' hr hsub h0
        obtain ⟨i1, i2⟩ := apartM_sound hr
        refine ⟨fun i b src c hi hM hc => ?_, fun i j b b' src src' c hij hi hj hM hM' hc hc' => ?_⟩
        · cases i with
          | zero =>
            simp only [List.getElem?_cons_zero, Option.some.injEq] at hi
            subst hi
            rw [Nat.add_zero, hs0] at hM
            obtain rfl := Option.some.inj hM
            exact ⟨(h0 c hc).2.1, (h0 c hc).2.2⟩
          | succ i =>
            simp only [List.getElem?_cons_succ] at hi
            obtain ⟨g1, g2⟩ := i1 i b src c hi (by rw [← hM]; congr 1; omega) hc
            exact ⟨g1, fun x hx => g2 x (hsub x hx)⟩
        · cases j with
          | zero => omega
          | succ j =>
            simp only [List.getElem?_cons_succ] at hj
            cases i with
            | zero =>
              simp only [List.getElem?_cons_zero, Option.some.injEq] at hi
              subst hi
              rw [Nat.add_zero, hs0] at hM
              obtain rfl := Option.some.inj hM
              obtain ⟨g1, g2⟩ := i1 j b' src' c hj (by rw [← hM']; congr 1; omega) hc'
              exact g2 (c, b0.own) (h0 c hc).1 rfl
            | succ i =>
              simp only [List.getElem?_cons_succ] at hi
              exact i2 i j b b' src src' c (by omega) hi hj (by rw [← hM]; congr 1; omega) (by rw [← hM']; congr 1; omega) hc hc'
      split at h
      · rename_i c0 hc0
        simp only [Bool.and_eq_true] at h
        obtain ⟨⟨h1, h2⟩, h3⟩ := h
        refine step _ h3 (fun x hx => List.mem_cons_of_mem _ hx) (fun c hc => ?_)
        rw [hc0] at hc
        obtain rfl := Option.some.inj hc
        refine ⟨List.mem_cons_self .., ?_, fun x hx he => ?_⟩
        · simp only [Bool.or_eq_true, Nat.ble_eq, inL_iff, Bool.and_eq_true, Bool.not_eq_true'] at h2
          rcases h2 with (h2 | h2) | ⟨h2, h4⟩
          · exact .inl h2
          · exact .inr (.inl h2)
          · split at h4
            · rename_i own c' hq
              exact .inr (.inr ⟨h2, _, hq, by simpa using h4⟩)
            · simp at h4
        · have := List.all_eq_true.1 h1 x hx
          simp only [Bool.or_eq_true, Bool.not_eq_true', Bool.and_eq_true] at this
          rcases this with h5 | h5
          · rw [he, Nat.beq_refl] at h5; simp at h5
          · exact h5
      · rename_i hc0
        exact step _ h (fun x hx => hx) (fun c hc => by rw [hc0] at hc; simp at hc)
    · simp at h

end
end Go.Sh
