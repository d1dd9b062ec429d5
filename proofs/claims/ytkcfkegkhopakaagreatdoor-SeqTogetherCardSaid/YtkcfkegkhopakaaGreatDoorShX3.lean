/- Shapes: blocks told out of a state, and put into another one. No condition. -/
import Derived.Test.YtkcfkegkhopakaaGreatDoorShX2
import Derived.Test.YtkcfkegkhopakaaGreatDoorEvX3
import Derived.ChangeMaps5
namespace Go.Sh
set_option linter.unusedVariables false
set_option linter.unusedSimpArgs false
open Go Go.Ev

/-- windows are within their blocks -/
def MOk (r : RM) (M : Fnd) : Prop := ∀ k b o l, M.get k = some (.win b o l) → ∃ w, r b = some w ∧ o + l ≤ w.len

theorem MOk.nil (r : RM) : MOk r .nil := fun k b o l h => by simp [Tr.get] at h

theorem addB_mok {r : RM} {base : Nat} {M M' : Fnd} {k : Nat} {x : Src} (h : addB base M k x = some M') (hx : ∀ b o l, x = .win b o l → ∃ w, r b = some w ∧ o + l ≤ w.len) (hM : MOk r M) : MOk r M' := by
  have key : ∀ {M'}, addM M k x = some M' → MOk r M' := by
    intro M' h
    unfold addM at h
    split at h
    · obtain rfl := Option.some.inj h
      intro j b o l hj
      rw [Tr.get_set _ _ _ _ _ (by omega)] at hj
      split at hj
      · exact hx b o l (Option.some.inj hj)
      · exact hM j b o l hj
    · split at h
      · obtain ⟨_, h⟩ := bif_some' h
        obtain rfl := Option.some.inj h
        exact hM
      · simp at h
    · simp at h
  unfold addB at h
  rcases bif_or h with ⟨_, h1⟩ | ⟨_, h1⟩
  · split at h1
    · obtain ⟨_, h2⟩ := bif_some' h1
      obtain rfl := Option.some.inj h2
      exact hM
    · simp at h1
  · exact key h1

section
variable {P : Fr} {r : RM} {s : St} {e : Env} {H : Heap}

mutual
theorem absR_mok {base : Nat} : ∀ {sh : RSh} {v : SV} {M : Fnd} {a : Ab} {u : AV}, absR s base sh v M = some a → VR r v u → MOk r M → MOk r a.M
  | .ty t, v, M, a, u, ha, hv, hM => by
    simp only [absR] at ha
    obtain ⟨_, ha⟩ := bif_some' ha
    split at ha
    · obtain rfl := Option.some.inj ha; exact hM
    · simp at ha
  | .nilp, v, M, a, u, ha, hv, hM => by
    cases v <;> simp only [absR] at ha <;> first | (simp at ha; done) | skip
    obtain rfl := Option.some.inj ha; exact hM
  | .nils, v, M, a, u, ha, hv, hM => by
    cases v <;> simp only [absR] at ha <;> first | (simp at ha; done) | skip
    obtain rfl := Option.some.inj ha; exact hM
  | .cst k n, v, M, a, u, ha, hv, hM => by
    simp only [absR] at ha
    split at ha
    · split at ha
      · obtain ⟨_, ha⟩ := bif_some' ha
        obtain rfl := Option.some.inj ha; exact hM
      · simp at ha
    · simp at ha
  | .nilf, v, M, a, u, ha, hv, hM => by
    cases v <;> simp only [absR] at ha <;> first | (simp at ha; done) | skip
    obtain rfl := Option.some.inj ha; exact hM
  | .ptr k, v, M, a, u, ha, hv, hM => by
    cases v <;> simp only [absR] at ha <;> first | (simp at ha; done) | skip
    obtain ⟨hb, ha⟩ := bif_some' ha
    split at ha
    · rename_i M' hM'
      obtain rfl := Option.some.inj ha
      exact addB_mok hM' (fun _ _ _ h => by simp at h) hM
    · simp at ha
  | .sla k ex, v, M, a, u, ha, hv, hM => by
    simp only [absR] at ha
    split at ha
    · obtain ⟨hb, ha⟩ := bif_some' ha
      split at ha
      · rename_i M' hM'
        obtain rfl := Option.some.inj ha
        exact addB_mok hM' (fun _ _ _ h => by simp at h) hM
      · simp at ha
    · split at ha
      · rename_i M' hM'
        obtain rfl := Option.some.inj ha
        exact addB_mok hM' (fun _ _ _ h => by simp at h) hM
      · simp at ha
    · rename_i b o l c
      split at ha
      · rename_i M' hM'
        have key : MOk r M' := addB_mok hM' (fun b' o' l' h => by
          simp only [Src.win.injEq] at h
          obtain ⟨rfl, rfl, rfl⟩ := h
          obtain ⟨w, g1, g2, _⟩ := hv
          exact ⟨w, g1, g2⟩) hM
        split at ha
        · obtain rfl := Option.some.inj ha; exact key
        · cases ex <;> simp only at ha <;> first | (simp at ha; done) | (obtain rfl := Option.some.inj ha; exact key)
        · cases ex <;> simp only at ha <;> first | (simp at ha; done) | (obtain rfl := Option.some.inj ha; exact key)
        · cases ex <;> simp only at ha <;> first | (simp at ha; done) | (obtain rfl := Option.some.inj ha; exact key)
      · simp at ha
    · simp at ha
  | .slw k, v, M, a, u, ha, hv, hM => by
    simp only [absR] at ha
    split at ha
    · split at ha
      · rename_i M' hM'
        obtain rfl := Option.some.inj ha
        exact addB_mok hM' (fun _ _ _ h => by simp at h) hM
      · simp at ha
    · split at ha
      · rename_i M' l hM' hl
        obtain rfl := Option.some.inj ha
        exact addB_mok hM' (fun _ _ _ h => by simp at h) hM
      · simp at ha
    · simp at ha
  | .segs rs, v, M, a, u, ha, hv, hM => by
    simp only [absR] at ha
    obtain ⟨_, ha⟩ := bif_some' ha
    exact (absRs_mok ha).2 hv.flat hM
  | .tup rs, v, M, a, u, ha, hv, hM => by
    cases v <;> simp only [absR] at ha <;> first | (simp at ha; done) | skip
    obtain ⟨us, rfl, hv⟩ := hv
    exact (absRs_mok ha).1 hv hM
  | .fn f x y, v, M, a, u, ha, hv, hM => by
    cases v <;> simp only [absR] at ha <;> first | (simp at ha; done) | skip
    obtain ⟨hf, ha⟩ := bif_some' ha
    split at ha
    · rename_i p hp
      split at ha
      · rename_i q hq
        obtain rfl := Option.some.inj ha
        obtain ⟨us, ws, rfl, hv1, hv2⟩ := hv
        exact (absRs_mok hq).1 hv2 ((absRs_mok hp).1 hv1 hM)
      · simp at ha
    · simp at ha
theorem absRs_mok {base : Nat} : ∀ {rs : List RSh} {vs : List SV} {M : Fnd} {a : Ab}, absRs s base rs vs M = some a → (∀ {us : List AV}, VRs r vs us → MOk r M → MOk r a.M) ∧ (∀ {us : List AV}, CRs r vs us → MOk r M → MOk r a.M)
  | [], vs, M, a, ha => by
    cases vs <;> simp only [absRs] at ha <;> first | (simp at ha; done) | skip
    obtain rfl := Option.some.inj ha
    exact ⟨fun _ h => h, fun _ h => h⟩
  | x :: rs, vs, M, a, ha => by
    cases vs <;> simp only [absRs] at ha <;> first | (simp at ha; done) | skip
    split at ha
    · rename_i p hp
      split at ha
      · rename_i q hq
        obtain rfl := Option.some.inj ha
        refine ⟨fun {us} hv hM => ?_, fun {us} hv hM => ?_⟩
        · obtain ⟨u, us', rfl, hv1, hv2⟩ := hv
          exact (absRs_mok hq).1 hv2 (absR_mok hp hv1 hM)
        · obtain ⟨u, us', rfl, hv1, hv2⟩ := hv
          exact (absRs_mok hq).2 hv2 (absR_mok hp hv1 hM)
      · simp at ha
    · simp at ha
end

/-! ### blocks -/
def zc : CSh → Nat
  | .many t => t.size
  | .one _ => 0

/-- where a block comes from -/
def Orig (r : RM) (s : St) (own : Bool) (src : Src) (w : W) : Prop :=
  w.virt = true ∨ ∃ b k w0, srcB src = some b ∧ s.heap.get b = some k ∧ (own = true → k.own = true) ∧ r b = some w0 ∧ w0.virt = false ∧ w.virt = false ∧ w.hb = w0.hb

theorem orig_blk (r : RM) (s : St) {own : Bool} {b : Nat} {k : Blk} {w : W} (h1 : s.heap.get b = some k) (h2 : own = true → k.own = true) (h3 : r b = some w) : Orig r s own (.blk b) w := by
  cases hv : w.virt with
  | true => exact .inl hv
  | false => exact .inr ⟨b, k, w, rfl, h1, h2, h3, hv, hv, rfl⟩

theorem own_imp {own own' : Bool} (h : (!own || own') = true) : own = true → own' = true := by
  cases own <;> cases own' <;> simp_all

theorem absC_sound (h : Rel P r s e H) {base : Nat} {bl : List BSh} {own : Bool} {c : CSh} {src : Src} {M : Fnd} {a : Ab} (ha : absC s base own c src M = some a) (hm : MOk r M) (hsrc : ∀ b o l, src = .win b o l → ∃ w, r b = some w ∧ o + l ≤ w.len) :
    SubM M a.M ∧ MOk r a.M ∧ ∀ {Mf : Fnd}, a.g = true → SubM a.M Mf → ∃ w, srcW r (zc c) src = some w ∧ DB (newR r base bl Mf) H w c a.ds ∧ Orig r s own src w := by
  unfold absC at ha
  split at ha
  · rename_i sh b
    split at ha
    · rename_i own' v hk
      obtain ⟨ho, ha⟩ := bif_some' ha
      obtain ⟨w, g1, g2, g3, g4⟩ := h.br b _ hk
      obtain ⟨g0, u, pre, post, g5, g6, g7⟩ := g2
      obtain ⟨h1, h2⟩ := absR_sound h ha
      refine ⟨h1, absR_mok ha g5 hm, fun {Mf} hg hs => ⟨w, g1, ⟨g0, u, pre, post, h2 hg g5 hs, g6, g7⟩, orig_blk r s hk (own_imp ho) g1⟩⟩
    · simp at ha
  · rename_i t b
    split at ha
    · rename_i own' t' xs hk
      obtain ⟨ho, ha⟩ := bif_some' ha
      split at ha
      · rename_i ys hys
        obtain rfl := Option.some.inj ha
        obtain ⟨rfl, rfl⟩ := castL_sound hys
        obtain ⟨w, g1, g2, g3, g4⟩ := h.br b _ hk
        exact ⟨SubM.refl _, hm, fun {Mf} hg hs => ⟨w, g1, ⟨xs, rfl, g2⟩, orig_blk r s hk (own_imp ho) g1⟩⟩
      · simp at ha
    · simp at ha
  · rename_i t b o l
    split at ha
    · rename_i own' t' xs hk
      obtain ⟨ho, ha⟩ := bif_some' ha
      split at ha
      · rename_i ys hys
        obtain rfl := Option.some.inj ha
        obtain ⟨rfl, rfl⟩ := castL_sound hys
        obtain ⟨w, g1, g2, g3, g4⟩ := h.br b _ hk
        obtain ⟨w', g1', hle⟩ := hsrc b o l rfl
        rw [g1] at g1'
        obtain rfl := Option.some.inj g1'
        refine ⟨SubM.refl _, hm, fun {Mf} hg hs => ?_⟩
        obtain ⟨q1, q2, q3, q4⟩ := g2
        rw [q1] at hle
        have hlen : ((xs.drop o).take l).length = l := by rw [List.length_take, List.length_drop]; omega
        rcases q4 with ⟨q4, rfl⟩ | ⟨q4, pre, post, q5, q6⟩
        · refine ⟨⟨true, 0, 0, 0, w.size⟩, by simp only [srcW, g1, q4, cond_true], ⟨_, rfl, ?_⟩, .inl rfl⟩
          simp only [List.drop_nil, List.take_nil]
          exact ⟨rfl, q2, q3, .inl ⟨rfl, rfl⟩⟩
        · refine ⟨⟨false, w.hb, w.base + o * w.size, l, w.size⟩, by simp only [srcW, g1, q4, cond_false], ⟨_, rfl, ?_⟩, .inr ⟨b, _, w, rfl, hk, own_imp ho, g1, q4, rfl, rfl⟩⟩
          refine ⟨hlen.symm, q2, q3, .inr ⟨rfl, pre ++ (xs.take o).flatMap t'.cells, (xs.drop (o + l)).flatMap t'.cells ++ post, ?_, ?_⟩⟩
          · rw [q5]
            congr 1
            have e1 : xs = xs.take o ++ ((xs.drop o).take l ++ xs.drop (o + l)) := by
              rw [← List.drop_drop, List.take_append_drop, List.take_append_drop]
            conv => lhs; rw [e1]
            simp only [List.flatMap_append, List.append_assoc]
          · rw [List.length_append, q6, flatMap_length, List.length_take, Nat.min_eq_left (by omega), q2]
      · simp at ha
    · simp at ha
  · rename_i t
    obtain ⟨hz, ha⟩ := bif_some' ha
    obtain rfl := Option.some.inj ha
    refine ⟨SubM.refl _, hm, fun {Mf} hg hs => ⟨⟨true, 0, 0, 0, t.size⟩, rfl, ⟨[], rfl, rfl, rfl, blt_iff.1 hz, .inl ⟨rfl, rfl⟩⟩, .inl rfl⟩⟩
  · simp at ha

/-- blocks that keep their numbers -/
def OldsOk (q : RM) (r : RM) (s : St) (H : Heap) : List (Nat × CSh) → List Dyn → Prop
  | [], ds => ds = []
  | (b, c) :: l, ds => ∃ d1 d2 w k, ds = d1 ++ d2 ∧ r b = some w ∧ s.heap.get b = some k ∧ k.own = true ∧ DB q H w c d1 ∧ OldsOk q r s H l d2

/-- new blocks -/
def NewsOk (q : RM) (r : RM) (s : St) (H : Heap) (M : Fnd) : Nat → List BSh → List Dyn → Prop
  | _, [], ds => ds = []
  | k, b :: l, ds => ∃ d1 d2 w src, ds = d1 ++ d2 ∧ M.get k = some src ∧ q k = some w ∧ DB q H w b.c d1 ∧ Orig r s b.own src w ∧ NewsOk q r s H M (k + 1) l d2

theorem absOld_sound (h : Rel P r s e H) {base : Nat} {bl : List BSh} : ∀ {l : List (Nat × CSh)} {M : Fnd} {a : Ab}, absOld s base l M = some a → MOk r M → SubM M a.M ∧ MOk r a.M ∧ ∀ {Mf : Fnd}, a.g = true → SubM a.M Mf → OldsOk (newR r base bl Mf) r s H l a.ds
  | [], M, a, ha, hm => by
    simp only [absOld, Option.some.injEq] at ha
    subst ha
    exact ⟨SubM.refl _, hm, fun _ _ => rfl⟩
  | (b, c) :: l, M, a, ha, hm => by
    simp only [absOld] at ha
    split at ha
    · rename_i p hp
      split at ha
      · rename_i q hq
        obtain rfl := Option.some.inj ha
        obtain ⟨h1, h2, h3⟩ := absC_sound (bl := bl) h hp hm (fun _ _ _ h => by simp at h)
        obtain ⟨h4, h5, h6⟩ := absOld_sound (bl := bl) h hq h2
        refine ⟨h1.trans h4, h5, fun {Mf} hg hs => ?_⟩
        simp only [Bool.and_eq_true] at hg
        obtain ⟨w, g1, g2, g3⟩ := h3 hg.1 (h4.trans hs)
        have hk : ∃ k, s.heap.get b = some k ∧ k.own = true := by
          unfold absC at hp
          split at hp
          · rename_i heq
            obtain rfl := Src.blk.inj heq
            split at hp
            · rename_i own' v hk
              obtain ⟨ho, _⟩ := bif_some' hp
              exact ⟨_, hk, by simpa using ho⟩
            · simp at hp
          · rename_i heq
            obtain rfl := Src.blk.inj heq
            split at hp
            · rename_i own' t' xs hk
              obtain ⟨ho, _⟩ := bif_some' hp
              exact ⟨_, hk, by simpa using ho⟩
            · simp at hp
          · rename_i heq; simp at heq
          · rename_i heq; simp at heq
          · simp at hp
        obtain ⟨k, hk1, hk2⟩ := hk
        exact ⟨_, _, w, k, rfl, g1, hk1, hk2, g2, h6 hg.2 hs⟩
      · simp at ha
    · simp at ha

theorem absBs_sound (h : Rel P r s e H) {base : Nat} {bl : List BSh} : ∀ {l : List BSh} {k : Nat} {M : Fnd} {a : Ab}, base ≤ k → bl.drop (k - base) = l → absBs s base k l M = some a → MOk r M → SubM M a.M ∧ MOk r a.M ∧ ∀ {Mf : Fnd}, a.g = true → SubM a.M Mf → NewsOk (newR r base bl Mf) r s H Mf k l a.ds
  | [], k, M, a, hbk, hd, ha, hm => by
    simp only [absBs, Option.some.injEq] at ha
    subst ha
    exact ⟨SubM.refl _, hm, fun _ _ => rfl⟩
  | b :: l, k, M, a, hbk, hd, ha, hm => by
    simp only [absBs] at ha
    split at ha
    · rename_i src hsrc
      split at ha
      · rename_i p hp
        split at ha
        · rename_i q hq
          obtain rfl := Option.some.inj ha
          have hd2 : bl.drop (k + 1 - base) = l := by
            rw [show k + 1 - base = (k - base) + 1 by omega, ← List.drop_drop, hd]; rfl
          have hz : zOf base bl k = zc b.c := by
            have : bl[k - base]? = some b := by
              have := congrArg (fun l : List BSh => l[0]?) hd
              simpa [List.getElem?_drop] using this
            unfold zOf
            rw [this]
            obtain ⟨own, c⟩ := b
            cases c <;> rfl
          obtain ⟨h1, h2, h3⟩ := absC_sound (bl := bl) h hp hm (fun b o l he => by subst he; exact hm k b o l hsrc)
          obtain ⟨h4, h5, h6⟩ := absBs_sound (bl := bl) h (by omega) hd2 hq h2
          refine ⟨h1.trans h4, h5, fun {Mf} hg hs => ?_⟩
          simp only [Bool.and_eq_true] at hg
          obtain ⟨w, g1, g2, g3⟩ := h3 hg.1 (h4.trans hs)
          have hMf : Mf.get k = some src := hs _ _ (h4 _ _ (h1 _ _ hsrc))
          refine ⟨_, _, w, src, rfl, hMf, ?_, g2, g3, h6 hg.2 hs⟩
          rw [newR_of (.inr ⟨hbk, hMf⟩), hz]
          exact g1
        · simp at ha
      · simp at ha
    · simp at ha

/-! ### which blocks may come from the same one -/
theorem inL_iff {l : List Nat} {x : Nat} : inL l x = true ↔ x ∈ l := by
  unfold inL
  rw [List.any_eq_true]
  constructor
  · rintro ⟨y, hy, h⟩
    rw [← Nat.eq_of_beq_eq_true h]
    exact hy
  · intro h
    exact ⟨x, h, Nat.beq_refl x⟩

theorem apartM_sound {base : Nat} {gone : List Nat} {M : Fnd} : ∀ {l : List BSh} {k : Nat} {seen : List (Nat × Bool)}, apartM s base gone M k l seen = true →
    (∀ i b src c, l[i]? = some b → M.get (k + i) = some src → srcB src = some c → (base ≤ c ∨ c ∈ gone ∨ (b.own = false ∧ ∃ q, s.heap.get c = some q ∧ q.own = false)) ∧ ∀ x ∈ seen, x.1 = c → x.2 = false ∧ b.own = false) ∧
    (∀ i j b b' src src' c, i < j → l[i]? = some b → l[j]? = some b' → M.get (k + i) = some src → M.get (k + j) = some src' → srcB src = some c → srcB src' = some c → b.own = false ∧ b'.own = false)
  | [], k, seen, h => ⟨fun i b src c hi => by simp at hi, fun i j b b' src src' c _ hi => by simp at hi⟩
  | b0 :: l, k, seen, h => by
    simp only [apartM] at h
    split at h
    · rename_i src0 hs0
      have step : ∀ seen', apartM s base gone M (k + 1) l seen' = true → (∀ x ∈ seen, x ∈ seen') → (∀ c, srcB src0 = some c → (c, b0.own) ∈ seen' ∧ (base ≤ c ∨ c ∈ gone ∨ (b0.own = false ∧ ∃ q, s.heap.get c = some q ∧ q.own = false)) ∧ ∀ x ∈ seen, x.1 = c → x.2 = false ∧ b0.own = false) →
          (∀ i b src c, (b0 :: l)[i]? = some b → M.get (k + i) = some src → srcB src = some c → (base ≤ c ∨ c ∈ gone ∨ (b.own = false ∧ ∃ q, s.heap.get c = some q ∧ q.own = false)) ∧ ∀ x ∈ seen, x.1 = c → x.2 = false ∧ b.own = false) ∧
          (∀ i j b b' src src' c, i < j → (b0 :: l)[i]? = some b → (b0 :: l)[j]? = some b' → M.get (k + i) = some src → M.get (k + j) = some src' → srcB src = some c → srcB src' = some c → b.own = false ∧ b'.own = false) := by
        intro seen' hr hsub h0
        obtain ⟨i1, i2⟩ := apartM_sound hr
        refine ⟨fun i b src c hi hM hc => ?_, fun i j b b' src src' c hij hi hj hM hM' hc hc' => ?_⟩
        · cases i with
          | zero =>
            simp only [List.getElem?_cons_zero, Option.some.injEq] at hi
            subst hi
            rw [Nat.add_zero, hs0] at hM
            obtain rfl := Option.some.inj hM
            exact ⟨(h0 c hc).2.1, (h0 c hc).2.2⟩
          | succ i =>
            simp only [List.getElem?_cons_succ] at hi
            obtain ⟨g1, g2⟩ := i1 i b src c hi (by rw [← hM]; congr 1; omega) hc
            exact ⟨g1, fun x hx => g2 x (hsub x hx)⟩
        · cases j with
          | zero => omega
          | succ j =>
            simp only [List.getElem?_cons_succ] at hj
            cases i with
            | zero =>
              simp only [List.getElem?_cons_zero, Option.some.injEq] at hi
              subst hi
              rw [Nat.add_zero, hs0] at hM
              obtain rfl := Option.some.inj hM
              obtain ⟨g1, g2⟩ := i1 j b' src' c hj (by rw [← hM']; congr 1; omega) hc'
              exact g2 (c, b0.own) (h0 c hc).1 rfl
            | succ i =>
              simp only [List.getElem?_cons_succ] at hi
              exact i2 i j b b' src src' c (by omega) hi hj (by rw [← hM]; congr 1; omega) (by rw [← hM']; congr 1; omega) hc hc'
      split at h
      · rename_i c0 hc0
        simp only [Bool.and_eq_true] at h
        obtain ⟨⟨h1, h2⟩, h3⟩ := h
        refine step _ h3 (fun x hx => List.mem_cons_of_mem _ hx) (fun c hc => ?_)
        rw [hc0] at hc
        obtain rfl := Option.some.inj hc
        refine ⟨List.mem_cons_self .., ?_, fun x hx he => ?_⟩
        · simp only [Bool.or_eq_true, Nat.ble_eq, inL_iff, Bool.and_eq_true, Bool.not_eq_true'] at h2
          rcases h2 with (h2 | h2) | ⟨h2, h4⟩
          · exact .inl h2
          · exact .inr (.inl h2)
          · split at h4
            · rename_i own c' hq
              exact .inr (.inr ⟨h2, _, hq, by simpa using h4⟩)
            · simp at h4
        · have := List.all_eq_true.1 h1 x hx
          simp only [Bool.or_eq_true, Bool.not_eq_true', Bool.and_eq_true] at this
          rcases this with h5 | h5
          · rw [he, Nat.beq_refl] at h5; simp at h5
          · exact h5
      · rename_i hc0
        exact step _ h (fun x hx => hx) (fun c hc => by rw [hc0] at hc; simp at hc)
    · simp at h

end
end Go.Sh

/- Where ways meet: the state told and put together again is the evaluator's. No condition. -/

namespace Go.Sh
set_option linter.unusedVariables false
set_option linter.unusedSimpArgs false
open Go Go.Ev

mutual
theorem DR.on {r r' : RM} : ∀ {sh : RSh} {ds : List Dyn} {u : AV}, (∀ k ∈ sh.refs, ∀ w, r k = some w → r' k = some w) → DR r sh ds u → DR r' sh ds u
  | .ty t, ds, u, _, k => k
  | .nilp, ds, u, _, k => k
  | .nils, ds, u, _, k => k
  | .nilf, ds, u, _, k => k
  | .cst _ _, ds, u, _, k => k
  | .ptr b, ds, u, h, ⟨h1, w, h2, h3⟩ => ⟨h1, w, h b (by simp [RSh.refs]) w h2, h3⟩
  | .sla b ex, ds, u, h, ⟨h1, w, h2, h3⟩ => ⟨h1, w, h b (by simp [RSh.refs]) w h2, h3⟩
  | .slw b, ds, u, h, ⟨o, l, h1, w, h2, h3⟩ => ⟨o, l, h1, w, h b (by simp [RSh.refs]) w h2, h3⟩
  | .segs l, ds, u, h, ⟨cs, h1, h2⟩ => ⟨cs, h1, DCs.on h h2⟩
  | .tup l, ds, u, h, ⟨us, h1, h2⟩ => ⟨us, h1, DRs.on h h2⟩
  | .fn f a c, ds, u, h, ⟨us, ws, d1, d2, h1, h2, h3, h4⟩ =>
    ⟨us, ws, d1, d2, h1, h2, DRs.on (fun k hk => h k (List.mem_append.2 (.inl hk))) h3, DRs.on (fun k hk => h k (List.mem_append.2 (.inr hk))) h4⟩
theorem DRs.on {r r' : RM} : ∀ {l : List RSh} {ds : List Dyn} {us : List AV}, (∀ k ∈ refsL l, ∀ w, r k = some w → r' k = some w) → DRs r l ds us → DRs r' l ds us
  | [], ds, us, _, k => k
  | x :: l, ds, us, h, ⟨d1, d2, u, us', h1, h2, h3, h4⟩ =>
    ⟨d1, d2, u, us', h1, h2, DR.on (fun k hk => h k (List.mem_append.2 (.inl hk))) h3, DRs.on (fun k hk => h k (List.mem_append.2 (.inr hk))) h4⟩
theorem DCs.on {r r' : RM} : ∀ {l : List RSh} {ds : List Dyn} {us : List AV}, (∀ k ∈ refsL l, ∀ w, r k = some w → r' k = some w) → DCs r l ds us → DCs r' l ds us
  | [], ds, us, _, k => k
  | x :: l, ds, us, h, ⟨d1, d2, u, us', h1, h2, h3, h4⟩ =>
    ⟨d1, d2, u, us', h1, h2, DR.on (fun k hk => h k (List.mem_append.2 (.inl hk))) h3, DCs.on (fun k hk => h k (List.mem_append.2 (.inr hk))) h4⟩
end

theorem DB.on {r r' : RM} {H : Heap} {w : W} {c : CSh} {ds : List Dyn} (h : ∀ k ∈ c.refs, ∀ w, r k = some w → r' k = some w) (k : DB r H w c ds) : DB r' H w c ds := by
  cases c with
  | one sh => obtain ⟨h0, u, pre, post, h1, h2⟩ := k; exact ⟨h0, u, pre, post, DR.on h h1, h2⟩
  | many t => exact k

mutual
/-- what is known of a value under a map holds under each map that has the same of its blocks -/
theorem VR.swap {r0 r r' : RM} (h : Ext r0 r) (h' : Ext r0 r') : ∀ {v : SV} {u0 u : AV}, VR r0 v u0 → VR r v u → VR r' v u
  | .ty _ _, _, _, _, k => k
  | .nilp, _, _, _, k => k
  | .nils, _, _, _, k => k
  | .nilf, _, _, _, k => k
  | .ptr b _ _, _, _, ⟨w0, a, _⟩, ⟨w, c, d⟩ => by
    rw [h _ _ a] at c
    obtain rfl := Option.some.inj c
    exact ⟨w0, h' _ _ a, d⟩
  | .sla b _, _, _, ⟨w0, a, _⟩, ⟨w, c, d⟩ => by
    rw [h _ _ a] at c
    obtain rfl := Option.some.inj c
    exact ⟨w0, h' _ _ a, d⟩
  | .slw b _ _ _, _, _, ⟨w0, a, _⟩, ⟨w, c, d⟩ => by
    rw [h _ _ a] at c
    obtain rfl := Option.some.inj c
    exact ⟨w0, h' _ _ a, d⟩
  | .segs _, _, _, ⟨_, _, a⟩, ⟨cs, e, k⟩ => ⟨cs, e, CRs.swap h h' a k⟩
  | .tup _, _, _, ⟨_, _, a⟩, ⟨cs, e, k⟩ => ⟨cs, e, VRs.swap h h' a k⟩
  | .fn _ _ _, _, _, ⟨_, _, _, a, b⟩, ⟨x, y, e, k, l⟩ => ⟨x, y, e, VRs.swap h h' a k, VRs.swap h h' b l⟩
theorem VRs.swap {r0 r r' : RM} (h : Ext r0 r) (h' : Ext r0 r') : ∀ {l : List SV} {us0 us : List AV}, VRs r0 l us0 → VRs r l us → VRs r' l us
  | [], _, _, _, k => k
  | _ :: _, _, _, ⟨_, _, _, a, b⟩, ⟨v, l, e, k, m⟩ => ⟨v, l, e, VR.swap h h' a k, VRs.swap h h' b m⟩
theorem CRs.swap {r0 r r' : RM} (h : Ext r0 r) (h' : Ext r0 r') : ∀ {l : List SV} {us0 us : List AV}, CRs r0 l us0 → CRs r l us → CRs r' l us
  | [], _, _, _, k => k
  | _ :: _, _, _, ⟨_, _, _, a, b⟩, ⟨v, l, e, k, m⟩ => ⟨v, l, e, VR.swap h h' a k, CRs.swap h h' b m⟩
end

theorem BR.swap {r0 r r' : RM} (h : Ext r0 r) (h' : Ext r0 r') {H0 H : Heap} {w0 w : W} {c : Cont} (k0 : BR r0 H0 w0 c) (k : BR r H w c) : BR r' H w c := by
  cases c with
  | one v =>
    obtain ⟨_, u0, _, _, a, _⟩ := k0
    obtain ⟨q, u, pre, post, b, d⟩ := k
    exact ⟨q, u, pre, post, VR.swap h h' a b, d⟩
  | many t xs => exact k

/-! ### registers -/
def RegsAre (e : Env) : List (Nat × RSh) → List AV → Prop
  | [], us => us = []
  | x :: l, us => ∃ u us', us = u :: us' ∧ lk e x.1 = some u ∧ RegsAre e l us'

section
variable {P : Fr} {r : RM} {s : St} {e : Env} {H : Heap}

theorem getRegs_sound (h : Rel P r s e H) : ∀ {l : List (Nat × RSh)} {vs : List SV}, getRegs s l = some vs → ∃ us, RegsAre e l us ∧ VRs r vs us
  | [], vs, hg => by
    simp only [getRegs, Option.some.injEq] at hg
    subst hg
    exact ⟨[], rfl, rfl⟩
  | (t, sh) :: l, vs, hg => by
    simp only [getRegs] at hg
    split at hg
    · rename_i v hv
      split at hg
      · rename_i ws hws
        obtain rfl := Option.some.inj hg
        obtain ⟨u, h1, h2⟩ := h.er t v hv
        obtain ⟨us, h3, h4⟩ := getRegs_sound h hws
        exact ⟨u :: us, ⟨u, us, rfl, h1, h3⟩, u, us, rfl, h2, h4⟩
      · simp at hg
    · simp at hg

def ErOk (r : RM) (env : Tr SV) (e : Env) : Prop := ∀ t v, env.get t = some v → ∃ u, lk e t = some u ∧ VR r v u

theorem conE_sound : ∀ {l : List (Nat × RSh)} {vs : List SV} {us : List AV} {env : Tr SV}, RegsAre e l us → VRs r vs us → ErOk r env e → ErOk r (conE l vs env) e
  | [], vs, us, env, h1, h2, h3 => by
    simp only [RegsAre] at h1
    subst h1
    cases vs with
    | nil => exact h3
    | cons v vs => exact h3
  | (t, sh) :: l, vs, us, env, h1, h2, h3 => by
    obtain ⟨u, us', rfl, h4, h5⟩ := h1
    cases vs with
    | nil => simp [VRs] at h2
    | cons v vs =>
      obtain ⟨u2, us2, he, h6, h7⟩ := h2
      simp only [List.cons.injEq] at he
      obtain ⟨rfl, rfl⟩ := he
      show ErOk r (conE l vs (env.set (t + 1) t (some v))) e
      refine conE_sound h5 h7 (fun q w hq => ?_)
      rw [Tr.get_set _ _ _ _ _ (by omega)] at hq
      split at hq
      · rename_i hqt
        subst hqt
        obtain rfl := Option.some.inj hq
        exact ⟨u, h4, h6⟩
      · exact h3 q w hq

theorem delE_get : ∀ {l : List Nat} {env : Tr SV} {t : Nat} {v : SV}, (delE l env).get t = some v → t ∉ l ∧ env.get t = some v
  | [], env, t, v, h => ⟨by simp, h⟩
  | x :: l, env, t, v, h => by
    obtain ⟨h1, h2⟩ := delE_get (l := l) h
    rw [Tr.get_set _ _ _ _ _ (by omega)] at h2
    split at h2
    · simp at h2
    · rename_i hne
      exact ⟨by simp [h1, hne], h2⟩

/-! ### blocks -/
theorem delB_get {rn : Nat → Nat} : ∀ {l : List Nat} {h : Tr Blk} {m : Nat}, (∀ b ∈ l, m ≠ rn b) → (delB rn l h).get m = h.get m
  | [], h, m, _ => rfl
  | x :: l, h, m, hm => by
    rw [delB, delB_get (fun b hb => hm b (List.mem_cons_of_mem _ hb)), Tr.get_set _ _ _ _ _ (by omega), if_neg (hm x (List.mem_cons_self ..))]

theorem delB_none {rn : Nat → Nat} : ∀ {l : List Nat} {h : Tr Blk} {b : Nat}, b ∈ l → (delB rn l h).get (rn b) = none
  | x :: l, h, b, hb => by
    rw [delB]
    by_cases hbl : b ∈ l
    · exact delB_none hbl
    · have hx : b = x := by
        rcases List.mem_cons.1 hb with h | h
        · exact h
        · exact absurd h hbl
      subst hx
      by_cases hq : ∀ c ∈ l, rn b ≠ rn c
      · rw [delB_get hq, Tr.get_set _ _ _ _ _ (by omega), if_pos rfl]
      · simp only [Classical.not_forall, Decidable.not_not] at hq
        obtain ⟨c, hc, he⟩ := hq
        rw [he]
        exact delB_none hc

theorem conOld_sound {rn : Nat → Nat} {q rT : RM} (hv : Via rn q rT) : ∀ {l : List (Nat × CSh)} {ds : List Dyn} {h : Tr Blk}, OldsOk q r s H l ds → (l.map fun x => rn x.1).Nodup →
    ∃ h', (∀ rest, conOld rn l (ds ++ rest) h = some (h', rest)) ∧ (∀ m, (∀ x ∈ l, m ≠ rn x.1) → h'.get m = h.get m) ∧
      ∀ x ∈ l, ∃ c w k, h'.get (rn x.1) = some ⟨true, c⟩ ∧ r x.1 = some w ∧ BR rT H w c ∧ s.heap.get x.1 = some k ∧ k.own = true
  | [], ds, h, ho, _ => by
    simp only [OldsOk] at ho
    subst ho
    exact ⟨h, fun rest => rfl, fun m _ => rfl, fun x hx => by simp at hx⟩
  | (b, c) :: l, ds, h, ho, hn => by
    obtain ⟨d1, d2, w, k, rfl, h1, h2, h3, h4, h5⟩ := ho
    obtain ⟨cont, h6, h7⟩ := conC_sound hv h4
    rw [List.map_cons, List.nodup_cons] at hn
    obtain ⟨h', h8, h9, h10⟩ := conOld_sound hv (h := h.set (rn b + 1) (rn b) (some ⟨true, cont⟩)) h5 hn.2
    refine ⟨h', fun rest => by simp only [conOld, List.append_assoc, h6, h8], fun m hm => ?_, fun x hx => ?_⟩
    · rw [h9 m (fun x hx => hm x (List.mem_cons_of_mem _ hx)), Tr.get_set _ _ _ _ _ (by omega), if_neg (hm _ (List.mem_cons_self ..))]
    · rcases List.mem_cons.1 hx with rfl | hx
      · refine ⟨cont, w, k, ?_, h1, h7, h2, h3⟩
        rw [h9 (rn b) (fun x hx he => hn.1 (List.mem_map.2 ⟨x, hx, he.symm⟩)), Tr.get_set _ _ _ _ _ (by omega), if_pos rfl]
      · exact h10 x hx

theorem conBs_sound {rn : Nat → Nat} {q rT : RM} {M : Fnd} (hv : Via rn q rT) : ∀ {l : List BSh} {k : Nat} {ds : List Dyn} {h : Tr Blk}, NewsOk q r s H M k l ds → (∀ i j, i < l.length → j < l.length → rn (k + i) = rn (k + j) → i = j) →
    ∃ h', conBs rn k l ds h = some h' ∧ (∀ m, (∀ i, i < l.length → m ≠ rn (k + i)) → h'.get m = h.get m) ∧
      ∀ i b, l[i]? = some b → ∃ c w src, h'.get (rn (k + i)) = some ⟨b.own, c⟩ ∧ q (k + i) = some w ∧ BR rT H w c ∧ M.get (k + i) = some src ∧ Orig r s b.own src w
  | [], k, ds, h, hn, _ => by
    simp only [NewsOk] at hn
    subst hn
    exact ⟨h, rfl, fun m _ => rfl, fun i b hi => by simp at hi⟩
  | b :: l, k, ds, h, hn, hinj => by
    obtain ⟨d1, d2, w, src, rfl, h1, h2, h3, h4, h5⟩ := hn
    obtain ⟨cont, h6, h7⟩ := conC_sound hv h3
    have hsh : ∀ i, k + 1 + i = k + (i + 1) := fun i => by omega
    obtain ⟨h', h8, h9, h10⟩ := conBs_sound hv (h := h.set (rn k + 1) (rn k) (some ⟨b.own, cont⟩)) h5 (fun i j hi hj he => by
      rw [hsh, hsh] at he
      have := hinj (i + 1) (j + 1) (by simp; omega) (by simp; omega) he
      omega)
    refine ⟨h', by simp only [conBs, h6, h8], fun m hm => ?_, fun i b' hi => ?_⟩
    · rw [h9 m (fun i hi => by rw [hsh]; exact hm (i + 1) (by simp; omega)), Tr.get_set _ _ _ _ _ (by omega), if_neg (by have := hm 0 (by simp); simpa using this)]
    · cases i with
      | zero =>
        simp only [List.getElem?_cons_zero, Option.some.injEq] at hi
        subst hi
        refine ⟨cont, w, src, ?_, h2, h7, h1, h4⟩
        rw [Nat.add_zero, h9 (rn k) (fun i hi he => by
          rw [hsh] at he
          have := hinj 0 (i + 1) (by simp) (by simp; omega) (by simpa using he)
          omega), Tr.get_set _ _ _ _ _ (by omega), if_pos rfl]
      | succ i =>
        simp only [List.getElem?_cons_succ] at hi
        have := h10 i b' hi
        rwa [hsh] at this

theorem nodupN_iff : ∀ {l : List Nat}, nodupN l = true → l.Nodup
  | [], _ => List.nodup_nil
  | x :: l, h => by
    simp only [nodupN, Bool.and_eq_true, Bool.not_eq_true'] at h
    refine List.nodup_cons.2 ⟨fun hx => ?_, nodupN_iff h.2⟩
    rw [inL_iff.2 hx] at h
    simp at h

theorem OldsOk.on {q q' : RM} : ∀ {l : List (Nat × CSh)} {ds : List Dyn}, (∀ k ∈ refsO l, ∀ w, q k = some w → q' k = some w) → OldsOk q r s H l ds → OldsOk q' r s H l ds
  | [], ds, _, k => k
  | (b, c) :: l, ds, h, ⟨d1, d2, w, k, h1, h2, h3, h4, h5, h6⟩ =>
    ⟨d1, d2, w, k, h1, h2, h3, h4, DB.on (fun k hk => h k (List.mem_append.2 (.inl hk))) h5, OldsOk.on (fun k hk => h k (List.mem_append.2 (.inr hk))) h6⟩

theorem NewsOk.on {q q' : RM} {M : Fnd} : ∀ {l : List BSh} {k : Nat} {ds : List Dyn}, (∀ k ∈ refsB l, ∀ w, q k = some w → q' k = some w) → (∀ i, i < l.length → q' (k + i) = q (k + i)) → NewsOk q r s H M k l ds → NewsOk q' r s H M k l ds
  | [], k, ds, _, _, g => g
  | b :: l, k, ds, h, hk, ⟨d1, d2, w, src, h1, h2, h3, h4, h5, h6⟩ => by
    refine ⟨d1, d2, w, src, h1, h2, ?_, DB.on (fun k hk => h k (List.mem_append.2 (.inl hk))) h4, h5, NewsOk.on (fun k hk => h k (List.mem_append.2 (.inr hk))) (fun i hi => ?_) h6⟩
    · have := hk 0 (by simp)
      rw [Nat.add_zero] at this
      rw [this]; exact h3
    · have := hk (i + 1) (by simp; omega)
      rwa [show k + (i + 1) = k + 1 + i by omega] at this

/-! ### a state told -/
/-- what is told of a state, relative to another one -/
structure Told (q : RM) (r : RM) (s0 s : St) (e : Env) (H : Heap) (sh : Shape) (M : Fnd) (ds : List Dyn) : Prop where
  parts : ∃ d1 d2 d3 us, ds = d1 ++ (d2 ++ d3) ∧ RegsAre e sh.regs us ∧ DRs q (sh.regs.map (·.2)) d1 us ∧ OldsOk q r s H sh.old d2 ∧ NewsOk q r s H M s0.next sh.new d3
  low : ∀ k, k < s0.next → q k = r k
  high : ∀ k, s0.next + sh.new.length ≤ k → q k = none
  apart : apartM s s0.next sh.gone M s0.next sh.new [] = true
  log : logOk s0 s (sh.old.map (·.1) ++ sh.gone) = true
  nodup : (sh.old.map (·.1) ++ sh.gone).Nodup
  below : ∀ x ∈ sh.old.map (·.1) ++ sh.gone, x < s0.next

theorem absS_sound (h : Rel P r s e H) {s0 : St} {sh : Shape} {y : HL sh.sig} (ha : absS s0 s sh = some (true, y)) : ∃ q M, Told q r s0 s e H sh M (ofHL sh.sig y) := by
  unfold absS at ha
  split at ha
  · simp at ha
  rename_i vs hvs
  split at ha
  · simp at ha
  rename_i x hx
  split at ha
  · simp at ha
  rename_i o ho
  split at ha
  · simp at ha
  rename_i z hz
  obtain ⟨hb, ha⟩ := bif_some' ha
  split at ha
  · rename_i w hw
    simp only [Option.some.injEq, Prod.mk.injEq, Bool.and_eq_true] at ha
    obtain ⟨⟨g1, g2, g3⟩, rfl⟩ := ha
    simp only [Bool.and_eq_true] at hb
    obtain ⟨⟨⟨⟨hlt, hap⟩, hlog⟩, hnd⟩, hbe⟩ := hb
    have hrl : ∀ k ∈ sh.refs, k < s0.next + sh.new.length := fun k hk => blt_iff.1 (List.all_eq_true.1 hlt k hk)
    unfold Shape.refs at hrl
    obtain ⟨us, k1, k2⟩ := getRegs_sound h hvs
    obtain ⟨a1, a2, _⟩ := absRs_sound (bl := sh.new) h hx
    have m1 := (absRs_mok hx).1 k2 (MOk.nil r)
    obtain ⟨b1, b2, b3⟩ := absOld_sound (bl := sh.new) (base := s0.next) h ho m1
    obtain ⟨c1, c2, c3⟩ := absBs_sound (bl := sh.new) (base := s0.next) h (Nat.le_refl _) (by simp) hz b2
    have hlow : ∀ k w, k < s0.next + sh.new.length → newR r s0.next sh.new z.M k = some w → (fun k => if k < s0.next + sh.new.length then newR r s0.next sh.new z.M k else none) k = some w := by
      intro k w hk hw
      simp only [if_pos hk]
      exact hw
    have hon : ∀ l : List Nat, (∀ k ∈ l, k ∈ refsL (sh.regs.map (·.2)) ++ (refsO sh.old ++ refsB sh.new)) → ∀ k ∈ l, ∀ w, newR r s0.next sh.new z.M k = some w → (fun k => if k < s0.next + sh.new.length then newR r s0.next sh.new z.M k else none) k = some w :=
      fun l hl k hk w hw => hlow k w (hrl k (hl k hk)) hw
    refine ⟨fun k => if k < s0.next + sh.new.length then newR r s0.next sh.new z.M k else none, z.M, ?_, fun k hk => ?_, fun k hk => ?_, hap, hlog, nodupN_iff hnd, fun x hx => blt_iff.1 (List.all_eq_true.1 hbe x hx)⟩
    · refine ⟨x.ds, o.ds, z.ds, us, toHL_sound hw, k1, DRs.on (hon _ fun k hk => by simp [hk]) (a2 g1 k2 (b1.trans c1)), OldsOk.on (hon _ fun k hk => by simp [hk]) (b3 g2 c1), NewsOk.on (hon _ fun k hk => by simp [hk]) (fun i hi => if_pos (by omega)) (c3 g3 (SubM.refl _))⟩
    · show (if k < s0.next + sh.new.length then newR r s0.next sh.new z.M k else none) = r k
      rw [if_pos (by omega), newR, if_pos hk]
    · show (if k < s0.next + sh.new.length then newR r s0.next sh.new z.M k else none) = none
      rw [if_neg (by omega)]
  · simp at ha

/-- a state put together again -/
theorem join_sound {r0 : RM} {s0 : St} {e0 : Env} {H0 : Heap} {P0 : Fr} (h0 : Rel P0 r0 s0 e0 H0) (h : Rel P r s e H) (hext : Ext r0 r) (hkp : Kp s0 s) {kill : List Nat} (hkill : ∀ t, t ∉ kill → lk e t = lk e0 t) {sh : Shape} {y : HL sh.sig}
    (ha : absS s0 s sh = some (true, y)) : ∃ s1 r1, conS s0 kill sh y = some s1 ∧ Rel P r1 s1 e H ∧ Ext r0 r1 ∧ Kp s0 s1 ∧ (∃ M, Told r1 r s0 s e H sh M (ofHL sh.sig y)) ∧
      (∀ i b, sh.new[i]? = some b → ∃ c, s1.heap.get (s0.next + i) = some ⟨b.own, c⟩) ∧ (∀ x ∈ sh.old, ∃ c, s1.heap.get x.1 = some ⟨true, c⟩) := by
  obtain ⟨q, M, ht⟩ := absS_sound h ha
  obtain ⟨d1, d2, d3, us, hds, hregs, hdrs, holds, hnews⟩ := ht.parts
  have hvia : Via id q q := fun k w hk => hk
  obtain ⟨vs, hvs, hvr⟩ := conRs_sound hvia hdrs
  have hnd1 : (sh.old.map fun x => id x.1).Nodup := (List.nodup_append.1 ht.nodup).1
  obtain ⟨hp1, c1, c2, c3⟩ := conOld_sound hvia (h := delB id sh.gone s0.heap) holds hnd1
  obtain ⟨hp2, n1, n2, n3⟩ := conBs_sound hvia (h := hp1) hnews (fun i j _ _ he => by simpa using he)
  have hcon : conS s0 kill sh y = some ⟨conE sh.regs vs (delE kill s0.env), hp2, s0.next + sh.new.length, s0.start, (sh.old.map (·.1) ++ sh.gone) ++ s0.log⟩ := by
    unfold conS
    rw [hds, hvs]
    simp only
    rw [c1]
    simp only [n1]
  have hq0 : Ext r0 q := fun b w hb => by rw [ht.low b (h0.dm b w hb)]; exact hext b w hb
  obtain ⟨lg, hl1, hl2⟩ := hkp.log
  have hlogl : ∀ x ∈ lg, s0.next ≤ x ∨ x ∈ sh.old.map (·.1) ++ sh.gone := by
    have := ht.log
    unfold logOk at this
    rw [hl1, show (lg ++ s0.log).length - s0.log.length = lg.length by simp, List.take_left, List.all_eq_true] at this
    intro x hx
    have := this x hx
    simpa only [Bool.or_eq_true, Nat.ble_eq, inL_iff] using this
  -- blocks that are kept
  have hkeep : ∀ b, b < s0.next → b ∉ sh.old.map (·.1) ++ sh.gone → hp2.get b = s0.heap.get b ∧ s.heap.get b = s0.heap.get b := by
    intro b hb hnt
    refine ⟨?_, hl2 b hb (fun hx => by rcases hlogl b hx with h | h; omega; exact hnt h)⟩
    rw [n2 b (fun i hi => by simp; omega), c2 b (fun x hx he => hnt (List.mem_append.2 (.inl (List.mem_map.2 ⟨x, hx, he.symm⟩)))),
      delB_get (fun x hx he => hnt (List.mem_append.2 (.inr (by simpa using he ▸ hx))))]
  have hgone : ∀ b ∈ sh.gone, hp2.get b = none := by
    intro b hb
    have hbl := ht.below b (List.mem_append.2 (.inr hb))
    rw [n2 b (fun i hi => by simp; omega), c2 b (fun x hx he => by
      have := (List.nodup_append.1 ht.nodup).2.2 x.1 (List.mem_map.2 ⟨x, hx, rfl⟩) b hb
      exact this he.symm)]
    exact delB_none (rn := id) hb
  -- where a block of the new state comes from
  have hcase : ∀ b k, hp2.get b = some k →
      (b < s0.next ∧ b ∉ sh.old.map (·.1) ++ sh.gone ∧ s0.heap.get b = some k ∧ s.heap.get b = some k) ∨
      (b < s0.next ∧ b ∈ sh.old.map (·.1) ∧ k.own = true ∧ ∃ w k', r b = some w ∧ BR q H w k.c ∧ s.heap.get b = some k' ∧ k'.own = true) ∨
      (∃ i bs, b = s0.next + i ∧ sh.new[i]? = some bs ∧ k.own = bs.own ∧ ∃ w src, q b = some w ∧ BR q H w k.c ∧ M.get b = some src ∧ Orig r s bs.own src w) := by
    intro b k hk
    rcases Nat.lt_or_ge b s0.next with hb | hb
    · by_cases hto : b ∈ sh.old.map (·.1)
      · obtain ⟨x, hx, rfl⟩ := List.mem_map.1 hto
        obtain ⟨c, w, k', g1, g2, g3, g4, g5⟩ := c3 x hx
        have hg1 : hp1.get x.1 = some ⟨true, c⟩ := g1
        rw [n2 x.1 (fun i hi => by simp; omega), hg1] at hk
        obtain rfl := Option.some.inj hk
        exact .inr (.inl ⟨hb, hto, rfl, w, k', g2, g3, g4, g5⟩)
      · by_cases htg : b ∈ sh.gone
        · rw [hgone b htg] at hk; simp at hk
        · have hnt : b ∉ sh.old.map (·.1) ++ sh.gone := by rw [List.mem_append, not_or]; exact ⟨hto, htg⟩
          obtain ⟨k1, k2⟩ := hkeep b hb hnt
          exact .inl ⟨hb, hnt, by rw [← k1]; exact hk, by rw [k2, ← k1]; exact hk⟩
    · obtain ⟨i, rfl⟩ : ∃ i, b = s0.next + i := ⟨b - s0.next, by omega⟩
      rcases Nat.lt_or_ge i sh.new.length with hi | hi
      · obtain ⟨c, w, src, g1, g2, g3, g4, g5⟩ := n3 i sh.new[i] (List.getElem?_eq_getElem hi)
        have hg1 : hp2.get (s0.next + i) = some ⟨(sh.new[i]).own, c⟩ := g1
        rw [hg1] at hk
        obtain rfl := Option.some.inj hk
        exact .inr (.inr ⟨i, sh.new[i], rfl, List.getElem?_eq_getElem hi, rfl, w, src, g2, g3, g4, g5⟩)
      · exfalso
        rw [n2 _ (fun j hj => by simp; omega), c2 _ (fun x hx he => by
          have := ht.below x.1 (List.mem_append.2 (.inl (List.mem_map.2 ⟨x, hx, rfl⟩)))
          simp at he; omega), delB_get (fun x hx he => by
          have := ht.below x (List.mem_append.2 (.inr hx))
          simp at he; omega)] at hk
        obtain ⟨_, _, _, hlt, _⟩ := h0.br _ _ hk
        omega
  -- its source in the state that is told
  have hsrc : ∀ b k, hp2.get b = some k → ∃ w, q b = some w ∧ BR q H w k.c ∧ b < s0.next + sh.new.length ∧ (w.virt = true ∨ ∃ c k' w0, s.heap.get c = some k' ∧ (k.own = true → k'.own = true) ∧ r c = some w0 ∧ w0.virt = false ∧ w.virt = false ∧ w.hb = w0.hb) := by
    intro b k hk
    rcases hcase b k hk with ⟨h1, h2, h3, h4⟩ | ⟨h1, h2, h3, w, k', h4, h5, h6, h7⟩ | ⟨i, bs, rfl, h1, h2, w, src, h3, h4, h5, h6⟩
    · obtain ⟨w0, g1, g2, _⟩ := h0.br b k h3
      obtain ⟨w, g3, g4, _⟩ := h.br b k h4
      refine ⟨w, by rw [ht.low b h1]; exact g3, BR.swap hext hq0 g2 g4, by omega, ?_⟩
      cases hv : w.virt with
      | true => exact .inl rfl
      | false => exact .inr ⟨b, k, w, h4, fun h => h, g3, hv, rfl, rfl⟩
    · refine ⟨w, by rw [ht.low b h1]; exact h4, h5, by omega, ?_⟩
      cases hv : w.virt with
      | true => exact .inl rfl
      | false => exact .inr ⟨b, k', w, h6, fun _ => h7, h4, hv, rfl, rfl⟩
    · have hi : i < sh.new.length := by
        rcases Nat.lt_or_ge i sh.new.length with h | h
        · exact h
        · rw [List.getElem?_eq_none h] at h1; simp at h1
      refine ⟨w, h3, h4, by omega, ?_⟩
      rcases h6 with h6 | ⟨c, k', w0, _, g2, g3, g4, g5, g6, g7⟩
      · exact .inl h6
      · exact .inr ⟨c, k', w0, g2, fun h => g3 (h2 ▸ h), g4, g5, g6, g7⟩
  obtain ⟨ap1, ap2⟩ := apartM_sound ht.apart
  refine ⟨_, q, hcon, ⟨?_, fun b k hk => ?_, fun b w hb => ?_, ?_, h.nx, h.ro, h.fr, Nat.le_trans h0.st (Nat.le_add_right ..), h.rn, ?_⟩, hq0, ⟨Nat.le_add_right .., rfl, _, rfl, fun b hb hn => (hkeep b hb hn).1⟩, ⟨M, ht⟩,
    fun i b hi => (by obtain ⟨c, w, src, g1, _⟩ := n3 i b hi; exact ⟨c, g1⟩), fun x hx => (by
      obtain ⟨c, w, k', g1, _⟩ := c3 x hx
      have hbl := ht.below x.1 (List.mem_append.2 (.inl (List.mem_map.2 ⟨x, hx, rfl⟩)))
      exact ⟨c, by rw [n2 x.1 (fun i hi => by simp; omega)]; exact g1⟩)⟩
  · -- registers
    refine conE_sound hregs hvr (fun t v hv => ?_)
    obtain ⟨g1, g2⟩ := delE_get hv
    obtain ⟨u, g3, g4⟩ := h0.er t v g2
    exact ⟨u, by rw [hkill t g1]; exact g3, g4.mono hq0⟩
  · obtain ⟨w, g1, g2, g3, g4⟩ := hsrc b k hk
    refine ⟨w, g1, g2, g3, fun hv => ?_⟩
    rcases g4 with g4 | ⟨c, k', w0, g5, g6, g7, g8, g9, g10⟩
    · rw [hv] at g4; simp at g4
    · obtain ⟨w1, a1, a2, a3, a4⟩ := h.br c k' g5
      rw [g7] at a1
      obtain rfl := Option.some.inj a1
      obtain ⟨b1, b2⟩ := a4 g8
      rw [g10]
      exact ⟨b1, fun ho => b2 (g6 ho)⟩
  · rcases Nat.lt_or_ge b (s0.next + sh.new.length) with h | h
    · exact h
    · rw [ht.high b h] at hb; simp at hb
  · -- apart
    intro b b' k k' w w' hne hk hk' hown hw hw' hv hv' heq
    have hpair : ∀ b k w, hp2.get b = some k → q b = some w → w.virt = false → ∃ c kc w0, s.heap.get c = some kc ∧ (k.own = true → kc.own = true) ∧ r c = some w0 ∧ w0.virt = false ∧ w.hb = w0.hb ∧
        ((c = b ∧ b < s0.next ∧ b ∉ sh.gone) ∨ (∃ i bs src, b = s0.next + i ∧ sh.new[i]? = some bs ∧ k.own = bs.own ∧ M.get b = some src ∧ srcB src = some c)) := by
      intro b k w hk hw hv
      rcases hcase b k hk with ⟨h1, h2, h3, h4⟩ | ⟨h1, h2, h3, w1, k1, h4, h5, h6, h7⟩ | ⟨i, bs, rfl, h1, h2, w1, src, h3, h4, h5, h6⟩
      · obtain ⟨w1, g3, _⟩ := h.br b k h4
        rw [ht.low b h1, g3] at hw
        obtain rfl := Option.some.inj hw
        exact ⟨b, k, w1, h4, fun h => h, g3, hv, rfl, .inl ⟨rfl, h1, fun hg => h2 (List.mem_append.2 (.inr hg))⟩⟩
      · rw [ht.low b h1, h4] at hw
        obtain rfl := Option.some.inj hw
        exact ⟨b, k1, w1, h6, fun _ => h7, h4, hv, rfl, .inl ⟨rfl, h1, fun hg => (List.nodup_append.1 ht.nodup).2.2 b h2 b hg rfl⟩⟩
      · rw [h3] at hw
        obtain rfl := Option.some.inj hw
        rcases h6 with h6 | ⟨c, kc, w0, g1, g2, g3, g4, g5, g6, g7⟩
        · rw [hv] at h6; simp at h6
        · exact ⟨c, kc, w0, g2, fun h => g3 (h2 ▸ h), g4, g5, g7, .inr ⟨i, bs, src, rfl, h1, h2, h5, g1⟩⟩
    obtain ⟨c, kc, w0, a1, a2, a3, a4, a5, a6⟩ := hpair b k w hk hw hv
    obtain ⟨c', kc', w0', b1, b2, b3, b4, b5, b6⟩ := hpair b' k' w' hk' hw' hv'
    by_cases hcc : c = c'
    · subst hcc
      rw [a1] at b1
      obtain rfl := Option.some.inj b1
      rcases a6 with ⟨a6, a7, a8⟩ | ⟨i, bs, src, rfl, a6, a7, a8, a9⟩
      · rcases b6 with ⟨b6, _⟩ | ⟨i', bs', src', rfl, b6, b7, b8, b9⟩
        · exact hne (a6.symm.trans b6)
        · subst a6
          have := (ap1 i' bs' src' c b6 b8 b9).1
          rcases this with h1 | h1 | ⟨h1, k1, h2, h3⟩
          · omega
          · exact a8 h1
          · rw [a1] at h2
            obtain rfl := Option.some.inj h2
            rcases hown with ho | ho
            · have := a2 ho; rw [h3] at this; simp at this
            · rw [b7, h1] at ho; simp at ho
      · rcases b6 with ⟨b6, b7, b8⟩ | ⟨i', bs', src', rfl, b6, b7, b8, b9⟩
        · subst b6
          have := (ap1 i bs src c a6 a8 a9).1
          rcases this with h1 | h1 | ⟨h1, k1, h2, h3⟩
          · omega
          · exact b8 h1
          · rw [a1] at h2
            obtain rfl := Option.some.inj h2
            rcases hown with ho | ho
            · rw [a7, h1] at ho; simp at ho
            · have := b2 ho; rw [h3] at this; simp at this
        · have hii : i ≠ i' := fun h => hne (by rw [h])
          rcases Nat.lt_or_ge i i' with hlt | hge
          · obtain ⟨h1, h2⟩ := ap2 i i' bs bs' src src' c hlt a6 b6 a8 b8 a9 b9
            rcases hown with ho | ho
            · rw [a7, h1] at ho; simp at ho
            · rw [b7, h2] at ho; simp at ho
          · obtain ⟨h1, h2⟩ := ap2 i' i bs' bs src' src c (by omega) b6 a6 b8 a8 b9 a9
            rcases hown with ho | ho
            · rw [a7, h2] at ho; simp at ho
            · rw [b7, h1] at ho; simp at ho
    · refine h.ap c c' kc kc' w0 w0' hcc a1 b1 ?_ a3 b3 a4 b4 (by rw [← a5, ← b5]; exact heq)
      rcases hown with ho | ho
      · exact .inl (a2 ho)
      · exact .inr (b2 ho)
  · -- the log
    obtain ⟨l, g1, g2, g3⟩ := h.lg
    refine ⟨l, g1, g2, fun b k w hk hw hv hlt hnl => ?_⟩
    simp only at hlt hnl
    rw [List.mem_append, not_or] at hnl
    have hb : b < s0.next := Nat.lt_of_lt_of_le hlt h0.st
    obtain ⟨k1, k2⟩ := hkeep b hb hnl.1
    rw [k1, ← k2] at hk
    rw [ht.low b hb] at hw
    refine g3 b k w hk hw hv (by rw [hkp.start]; exact hlt) ?_
    rw [hl1, List.mem_append, not_or]
    exact ⟨fun hx => by rcases hlogl b hx with h | h; omega; exact hnl.1 h, hnl.2⟩

end
end Go.Sh

/- Code: what the shallow reading comes to, the evaluator comes to, with fuel enough. No condition. -/

namespace Go.Sh
set_option linter.unusedVariables false
set_option linter.unusedSimpArgs false
open Go Go.Ev

section
variable {ρ : Type} {P : Fr} {r : RM} {s : St} {e : Env} {H : Heap} {cf : Nat → CallF} {callS : CallS ρ}

/-- a register known better -/
theorem Rel.setS (h : Rel P r s e H) {t : Nat} {v : SV} {u : AV} (hl : lk e t = some u) (hv : VR r v u) : Rel P r (s.put (some t) v) e H := by
  refine ⟨fun q x hx => ?_, fun b k hk => ?_, fun b w hb => by simpa using h.dm b w hb, fun b b' k k' w w' hne h1 h2 => ?_, h.nx, h.ro, h.fr, by simpa using h.st, h.rn, ?_⟩
  · rw [env_put] at hx
    split at hx
    · rename_i hd
      obtain rfl := Option.some.inj hx
      obtain rfl := Option.some.inj hd
      exact ⟨u, hl, hv⟩
    · exact h.er q x hx
  · simpa using h.br b k (by simpa using hk)
  · exact h.ap b b' k k' w w' hne (by simpa using h1) (by simpa using h2)
  · simpa using h.lg

theorem lk_putE_ne {e : Env} {d : Option Nat} {v : AV} {t : Nat} (h : d ≠ some t) : lk (putE e d v) t = lk e t := by
  rw [lk_put, if_neg h]

theorem runS_sound (hcs : CallSnd cf callS) {hint : Nat → Option Hn} : ∀ {is : List AIns} {P : Fr} {r : RM} {s : St} {e : Env} {H : Heap} {κ : St → Option ρ} {y : ρ}, Rel P r s e H → runS callS hint is s κ = some y →
    ∃ n0 e' H' s' r', (∀ n, n0 ≤ n → runIns (cf n) is e H = some (e', H')) ∧ Rel P r' s' e' H' ∧ Ext r r' ∧ Kp s s' ∧ (∀ t, t ∉ asgI is → lk e' t = lk e t) ∧ κ s' = some y
  | [], P, r, s, e, H, κ, y, h, hk => ⟨0, e, H, s, r, fun n _ => rfl, h, Ext.refl r, Kp.refl s, fun t _ => rfl, hk⟩
  | i :: is, P, r, s, e, H, κ, y, h, hk => by
    have hasg : ∀ t, t ∉ asgI (i :: is) → i.dst ≠ some t ∧ t ∉ asgI is := by
      intro t ht
      simp only [asgI] at ht
      split at ht
      · rename_i d hd
        rw [List.mem_cons, not_or] at ht
        exact ⟨by rw [hd]; simp; omega, ht.2⟩
      · rename_i hd
        exact ⟨by rw [hd]; simp, ht⟩
    -- done
    have hyes : ∀ {s1 : St}, Rel P r s1 e H → Kp s s1 → i.wanted e = some true → opS callS (match i.dst with | some d => hint d | none => none) s1 i.op (fun v s => runS callS hint is (s.put i.dst v) κ) = some y →
        ∃ n0 e' H' s' r', (∀ n, n0 ≤ n → runIns (cf n) (i :: is) e H = some (e', H')) ∧ Rel P r' s' e' H' ∧ Ext r r' ∧ Kp s s' ∧ (∀ t, t ∉ asgI (i :: is) → lk e' t = lk e t) ∧ κ s' = some y := by
      intro s1 h1 hkp hw ho
      obtain ⟨n1, u, H1, v, s2, r1, a1, a2, a3, a4, a5, a6, a7⟩ := op_sound hcs h1 ho
      obtain ⟨n2, e', H', s', r', b1, b2, b3, b4, b5, b6⟩ := runS_sound hcs (a2.put i.dst a3) a7
      refine ⟨max n1 n2, e', H', s', r', fun n hn => ?_, b2, a4.trans b3, (hkp.trans (a5.trans (Kp.put ..))).trans b4, fun t ht => ?_, b6⟩
      · simp only [runIns, AIns.step, hw, a1 n (by omega)]
        exact b1 n (by omega)
      · obtain ⟨c1, c2⟩ := hasg t ht
        rw [b5 t c2, lk_putE_ne c1]
    -- left out
    have hno : ∀ {s1 : St}, Rel P r s1 e H → Kp s s1 → i.wanted e = some false → runS callS hint is (s1.put i.dst (.tup [])) κ = some y →
        ∃ n0 e' H' s' r', (∀ n, n0 ≤ n → runIns (cf n) (i :: is) e H = some (e', H')) ∧ Rel P r' s' e' H' ∧ Ext r r' ∧ Kp s s' ∧ (∀ t, t ∉ asgI (i :: is) → lk e' t = lk e t) ∧ κ s' = some y := by
      intro s1 h1 hkp hw ho
      have hv : VR r (.tup []) (.tup []) := ⟨[], rfl, rfl⟩
      obtain ⟨n2, e', H', s', r', b1, b2, b3, b4, b5, b6⟩ := runS_sound hcs (h1.put i.dst hv) ho
      refine ⟨n2, e', H', s', r', fun n hn => ?_, b2, b3, (hkp.trans (Kp.put ..)).trans b4, fun t ht => ?_, b6⟩
      · simp only [runIns, AIns.step, hw]
        exact b1 n hn
      · obtain ⟨c1, c2⟩ := hasg t ht
        rw [b5 t c2, lk_putE_ne c1]
    simp only [runS] at hk
    split at hk
    · rename_i hg
      exact hyes h (Kp.refl s) (by simp only [AIns.wanted, hg]) hk
    · rename_i t b hg
      split at hk
      · rename_i x hx
        obtain ⟨u, h1, h2⟩ := h.er t _ hx
        simp only [VR, tyAV] at h2
        subst h2
        have hw : i.wanted e = some (x == b) := by simp only [AIns.wanted, hg, h1]
        have hput : ∀ z : Bool, x = z → Rel P r (s.put (some t) (.ty .bool z)) e H := fun z hz => h.setS h1 (by subst hz; rfl)
        unfold br at hk
        cases hxv : x with
        | true =>
          rw [hxv] at hk hw
          simp only [cond_true] at hk
          cases b with
          | true => exact hyes (hput true hxv) (Kp.put ..) hw hk
          | false => exact hno (hput true hxv) (Kp.put ..) hw hk
        | false =>
          rw [hxv] at hk hw
          simp only [cond_false] at hk
          cases b with
          | true => exact hno (hput false hxv) (Kp.put ..) hw hk
          | false => exact hyes (hput false hxv) (Kp.put ..) hw hk
      · rename_i l hx
        split at hk
        · obtain ⟨u, h1, h2⟩ := h.er t _ hx
          obtain ⟨us, rfl, h3⟩ := h2
          exact hno h (Kp.refl s) (by simp only [AIns.wanted, hg, h1]) hk
        · simp at hk
      · simp at hk

theorem not_ptr {v : SV} {b o : Nat} (h : VR r v (.ptr b o)) : ∃ c o' p, v = .ptr c o' p := by
  cases v with
  | ty t x => cases t <;> first | (simp [VR, tyAV] at h; done) | (simp only [VR, tyAV] at h; cases x <;> simp at h)
  | ptr c o' p => exact ⟨c, o', p, rfl⟩
  | sla b ex => obtain ⟨w, _, ⟨_, h, _⟩ | ⟨_, _, _, h⟩⟩ := h <;> simp at h
  | slw b o l c => obtain ⟨w, _, _, ⟨_, h⟩ | ⟨_, _, _, h⟩⟩ := h <;> simp at h
  | segs l => obtain ⟨_, h, _⟩ := h; simp at h
  | tup l => obtain ⟨_, h, _⟩ := h; simp at h
  | fn f a c => obtain ⟨_, _, h, _⟩ := h; simp at h
  | nilp => simp [VR] at h
  | nils => simp [VR] at h
  | nilf => simp [VR] at h

theorem okS_sound (h : Rel P r s e H) (hL : P.Lg = []) : ∀ {l : List Nat}, okS s l = true → okConf e P.n0 H.log l = true
  | [], _ => rfl
  | t :: l, hk => by
    simp only [okS, Bool.and_eq_true] at hk
    obtain ⟨h1, h2⟩ := hk
    simp only [okConf, Bool.and_eq_true]
    refine ⟨?_, okS_sound h hL h2⟩
    split
    · rename_i b o hl
      split at h1
      · rename_i c o' p hc
        split at h1
        · rename_i k hk
          simp only [Bool.and_eq_true, blt_iff] at h1
          obtain ⟨h3, h4⟩ := h1
          obtain ⟨u, g1, g2⟩ := h.er t _ hc
          rw [hl] at g1
          obtain rfl := Option.some.inj g1
          obtain ⟨w, q1, q2, q3, q4⟩ := g2
          simp only [AV.ptr.injEq] at q3
          obtain ⟨lg, a1, a2, a3⟩ := h.lg
          rw [hL, List.append_nil] at a1
          obtain ⟨b1, b2⟩ := a3 c k w hk q1 q2 h3 (fun hm => by
            have := List.all_eq_true.1 h4 c hm
            simp at this)
          rw [a1, q3.1]
          simp only [Bool.and_eq_true, Nat.blt_eq]
          refine ⟨b1, List.all_eq_true.2 (fun x hx => ?_)⟩
          simp only [Bool.not_eq_true']
          cases hb : Nat.beq x w.hb with
          | false => rfl
          | true => exact absurd ((Nat.eq_of_beq_eq_true hb) ▸ hx) b2
        · simp at h1
      · rename_i v hnp hv
        obtain ⟨u, g1, g2⟩ := h.er t _ hv
        rw [hl] at g1
        obtain rfl := Option.some.inj g1
        obtain ⟨c, o', p, rfl⟩ := not_ptr g2
        exact absurd rfl (hnp c o' p)
      · simp at h1
    · rfl

/-- code, if there is fuel enough -/
def CodeEv (cf : Nat → CallF) (c : ACode) (e : Env) (H : Heap) (x : AEx) (e' : Env) (H' : Heap) : Prop := ∃ n0, ∀ n, n0 ≤ n → evC (cf n) n c e H = some (x, e', H')

theorem toSh_some {s0 s : St} {sh : Shape} {K : HL sh.sig → Option ρ} {y : ρ} (h : toSh s0 sh s K = some y) : ∃ z, absS s0 s sh = some (true, z) ∧ K z = some y := by
  unfold toSh at h
  split at h
  · rename_i g z hz
    obtain ⟨hg, h⟩ := chk_some h
    subst hg
    exact ⟨z, hz, h⟩
  · simp at h

theorem ofSh_some {s0 : St} {kill : List Nat} {sh : Shape} {z : HL sh.sig} {k : St → Option ρ} {y : ρ} (h : ofSh s0 kill sh z k = some y) : ∃ s1, conS s0 kill sh z = some s1 ∧ k s1 = some y := by
  unfold ofSh at h
  split at h
  · rename_i s1 hs
    exact ⟨s1, hs, h⟩
  · simp at h

theorem setC_rel (h : Rel P r s e H) {c : Opd} {x : Bool} (hc : c.get e = some (.bool x)) : Rel P r (setC s c x) e H := by
  cases c with
  | t t => exact h.setS hc rfl
  | c v => exact h

theorem setC_kp (c : Opd) (x : Bool) : Kp s (setC s c x) := by
  cases c with
  | t t => exact Kp.put s (some t) (.ty .bool x)
  | c v => exact Kp.refl s

def DenOk (cf : Nat → CallF) (c : ACode) (P : Fr) (r : RM) (s : St) (e : Env) (H : Heap) (k : KS ρ) (y : ρ) : Prop :=
  ∃ x e' H' s' r', CodeEv cf c e H x e' H' ∧ Rel P r' s' e' H' ∧ Ext r r' ∧ Kp s s' ∧ (∀ t, t ∉ asg c → lk e' t = lk e t) ∧ k x s' = some y

theorem den_sound (hcs : CallSnd cf callS) {N : Nat} {hint : Nat → Option Hn} {an : Nat → Option Shape} : ∀ {c : ACode} {i : Nat} {P : Fr} {r : RM} {s : St} {e : Env} {H : Heap} {k : KS ρ} {y : ρ}, Rel P r s e H → den N callS hint an i c s k = some y → DenOk cf c P r s e H k y
  | .skip, i, P, r, s, e, H, k, y, h, hk => ⟨_, e, H, s, r, ⟨0, fun n _ => rfl⟩, h, Ext.refl r, Kp.refl s, fun t _ => rfl, hk⟩
  | .ret, i, P, r, s, e, H, k, y, h, hk => ⟨_, e, H, s, r, ⟨0, fun n _ => rfl⟩, h, Ext.refl r, Kp.refl s, fun t _ => rfl, hk⟩
  | .exit id, i, P, r, s, e, H, k, y, h, hk => ⟨_, e, H, s, r, ⟨0, fun n _ => rfl⟩, h, Ext.refl r, Kp.refl s, fun t _ => rfl, hk⟩
  | .region ins, i, P, r, s, e, H, k, y, h, hk => by
    simp only [den] at hk
    obtain ⟨n0, e', H', s', r', h1, h2, h3, h4, h5, h6⟩ := runS_sound hcs h hk
    exact ⟨_, e', H', s', r', ⟨n0, fun n hn => by simp only [evC, h1 n hn]⟩, h2, h3, h4, h5, h6⟩
  | .regionD ins conf, i, P, r, s, e, H, k, y, h, hk => by
    simp only [den] at hk
    have hlt : ∀ b k, s.heap.get b = some k → ∀ w, r b = some w → w.virt = false → H.has w.hb = true := by
      intro b k hb w hw hv
      obtain ⟨w', g1, _, _, g4⟩ := h.br b k hb
      rw [hw] at g1
      obtain rfl := Option.some.inj g1
      exact (g4 hv).1
    have h1 : Rel ⟨P.H0, P.F0, H, []⟩ r { s with start := s.next, log := [] } e (H.withLog []) :=
      ⟨h.er, fun b k hb => by
        obtain ⟨w, g1, g2, g3, g4⟩ := h.br b k hb
        exact ⟨w, g1, BR.mono (Ext.refl r) (fun _ => by simp) g2, g3, g4⟩, h.dm, h.ap, h.nx, h.ro, fun x hx hf => by simpa using h.fr x hx hf, Nat.le_refl _, h.rn,
        ⟨[], by simp, fun x hx => by simp at hx, fun b k w hb hw hv _ _ => ⟨hlt b k hb w hw hv, by simp⟩⟩⟩
    obtain ⟨n0, e', H', s', r', a1, a2, a3, a4, a5, a6⟩ := runS_sound hcs h1 hk
    obtain ⟨ho, hk2⟩ := bif_some' a6
    have hconf := okS_sound a2 rfl ho
    obtain ⟨l1, b1, b2, b3⟩ := a2.lg
    obtain ⟨l0, c1, c2, c3⟩ := h.lg
    rw [List.append_nil] at b1
    obtain ⟨ls, d1, d2⟩ := a4.log
    simp only [List.append_nil] at d1
    refine ⟨.normal, e', H'.withLog (H'.log ++ H.log), { s' with start := s.start, log := s'.log ++ s.log }, r', ⟨n0, fun n hn => ?_⟩, ?_, a3, ?_, a5, hk2⟩
    · simp only [evC, a1 n hn, hconf, cond_true]
    · refine ⟨a2.er, fun b k hb => ?_, a2.dm, a2.ap, a2.nx, a2.ro, fun x hx hf => by simpa using a2.fr x hx hf, Nat.le_trans h.st a4.next, h.rn, ⟨l1 ++ l0, ?_, fun x hx => ?_, fun b k w hb hw hv hlt2 hnl => ?_⟩⟩
      · obtain ⟨w, g1, g2, g3, g4⟩ := a2.br b k hb
        exact ⟨w, g1, BR.mono (Ext.refl r') (fun _ => by simp) g2, g3, g4⟩
      · simp only [Heap.log_withLog, b1, c1, List.append_assoc]
      · rcases List.mem_append.1 hx with hx | hx
        · exact b2 x hx
        · exact c2 x hx
      · simp only at hlt2 hnl
        rw [List.mem_append, not_or] at hnl
        have hbn : b < s.next := Nat.lt_of_lt_of_le hlt2 h.st
        obtain ⟨q1, q2⟩ := b3 b k w hb hw hv (by rw [a4.start]; exact hbn) hnl.1
        have hsame := d2 b hbn (by rw [← d1]; exact hnl.1)
        rw [hsame] at hb
        obtain ⟨w0, g1, _⟩ := h.br b k hb
        have := a3 b w0 g1
        rw [hw] at this
        obtain rfl := Option.some.inj this
        obtain ⟨q3, q4⟩ := c3 b k w hb g1 hv hlt2 hnl.2
        exact ⟨q3, by rw [List.mem_append, not_or]; exact ⟨q2, q4⟩⟩
    · exact ⟨a4.next, rfl, s'.log, rfl, fun b hb hn => d2 b hb (by rw [← d1]; exact hn)⟩
  | .seq a b, i, P, r, s, e, H, k, y, h, hk => by
    have hn : ∀ t, t ∉ asg (.seq a b) → t ∉ asg a ∧ t ∉ asg b := fun t ht => by simpa [asg, not_or] using ht
    -- what stands behind
    have hb : ∀ {e1 : Env} {H1 : Heap} {s1 : St} {r1 : RM}, CodeEv cf a e H .normal e1 H1 → Rel P r1 s1 e1 H1 → Ext r r1 → Kp s s1 → (∀ t, t ∉ asg a → lk e1 t = lk e t) → den N callS hint an (i + 1 + cnt a) b s1 k = some y → DenOk cf (.seq a b) P r s e H k y := by
      rintro e1 H1 s1 r1 ⟨n1, a1⟩ a2 a3 a4 a5 a6
      obtain ⟨x2, e2, H2, s2, r2, ⟨n2, b1⟩, b2, b3, b4, b5, b6⟩ := den_sound hcs a2 a6
      exact ⟨x2, e2, H2, s2, r2, ⟨max n1 n2, fun n hn => by simp only [evC, a1 n (by omega)]; exact b1 n (by omega)⟩, b2, a3.trans b3, a4.trans b4, fun t ht => by rw [b5 t (hn t ht).2, a5 t (hn t ht).1], b6⟩
    simp only [den] at hk
    split at hk
    · obtain ⟨x, e1, H1, s1, r1, a1, a2, a3, a4, a5, a6⟩ := den_sound hcs h hk
      cases x with
      | normal => exact hb a1 a2 a3 a4 a5 a6
      | exit id => obtain ⟨n1, a1⟩ := a1; exact ⟨_, e1, H1, s1, r1, ⟨n1, fun n hn => by simp only [evC, a1 n hn]⟩, a2, a3, a4, fun t ht => a5 t (hn t ht).1, a6⟩
      | ret => obtain ⟨n1, a1⟩ := a1; exact ⟨_, e1, H1, s1, r1, ⟨n1, fun n hn => by simp only [evC, a1 n hn]⟩, a2, a3, a4, fun t ht => a5 t (hn t ht).1, a6⟩
    · rename_i sh _
      unfold jp at hk
      obtain ⟨x, e1, H1, s1, r1, a1, a2, a3, a4, a5, a6⟩ := den_sound hcs h hk
      cases x with
      | normal =>
        simp only at a6
        obtain ⟨z, c1, c2⟩ := toSh_some a6
        obtain ⟨s2, c3, c4⟩ := ofSh_some c2
        obtain ⟨s3, r3, d1, d2, d3, d4, _⟩ := join_sound h a2 a3 a4 a5 c1
        rw [c3] at d1
        obtain rfl := Option.some.inj d1
        exact hb a1 d2 d3 d4 a5 c4
      | exit id => obtain ⟨n1, a1⟩ := a1; exact ⟨_, e1, H1, s1, r1, ⟨n1, fun n hn => by simp only [evC, a1 n hn]⟩, a2, a3, a4, fun t ht => a5 t (hn t ht).1, a6⟩
      | ret => obtain ⟨n1, a1⟩ := a1; exact ⟨_, e1, H1, s1, r1, ⟨n1, fun n hn => by simp only [evC, a1 n hn]⟩, a2, a3, a4, fun t ht => a5 t (hn t ht).1, a6⟩
  | .cond c a b, i, P, r, s, e, H, k, y, h, hk => by
    simp only [den] at hk
    obtain ⟨v, hv, hk1⟩ := orNone_some hk
    obtain ⟨u, h1, h2⟩ := opd_sound h hv
    have hn : ∀ t, t ∉ asg (.cond c a b) → t ∉ asg a ∧ t ∉ asg b := fun t ht => by simpa [asg, not_or] using ht
    have hset : ∀ x, u = .bool x → Rel P r (setC s c x) e H := fun x hx => setC_rel h (by rw [← hx]; exact h1)
    -- one way, as it stands
    have hleft : ∀ (k : KS ρ), u = .bool true → DenOk cf a P r (setC s c true) e H k y → ∃ x e' H' s' r', CodeEv cf (.cond c a b) e H x e' H' ∧ Rel P r' s' e' H' ∧ Ext r r' ∧ Kp s s' ∧ (∀ t, t ∉ asg a ++ asg b → lk e' t = lk e t) ∧ k x s' = some y := by
      rintro k hu ⟨x, e', H', s', r', ⟨n1, b1⟩, b2, b3, b4, b5, b6⟩
      rw [hu] at h1
      exact ⟨x, e', H', s', r', ⟨n1, fun n hn => by simp only [evC, h1, cond_true]; exact b1 n hn⟩, b2, b3, (setC_kp c true).trans b4, fun t ht => b5 t (fun hm => ht (List.mem_append.2 (.inl hm))), b6⟩
    have hright : ∀ (k : KS ρ), u = .bool false → DenOk cf b P r (setC s c false) e H k y → ∃ x e' H' s' r', CodeEv cf (.cond c a b) e H x e' H' ∧ Rel P r' s' e' H' ∧ Ext r r' ∧ Kp s s' ∧ (∀ t, t ∉ asg a ++ asg b → lk e' t = lk e t) ∧ k x s' = some y := by
      rintro k hu ⟨x, e', H', s', r', ⟨n1, b1⟩, b2, b3, b4, b5, b6⟩
      rw [hu] at h1
      exact ⟨x, e', H', s', r', ⟨n1, fun n hn => by simp only [evC, h1, cond_false]; exact b1 n hn⟩, b2, b3, (setC_kp c false).trans b4, fun t ht => b5 t (fun hm => ht (List.mem_append.2 (.inr hm))), b6⟩
    split at hk1
    · rename_i x
      simp only [VR, tyAV] at h2
      subst h2
      split at hk1
      · unfold br at hk1
        cases x with
        | true =>
          simp only [cond_true] at hk1
          exact hleft k rfl (den_sound hcs (hset true rfl) hk1)
        | false =>
          simp only [cond_false] at hk1
          exact hright k rfl (den_sound hcs (hset false rfl) hk1)
      · rename_i sh _
        unfold jp at hk1
        have hjoin : ∀ {x' : AEx} {e' : Env} {H' : Heap} {s' : St} {r' : RM}, CodeEv cf (.cond c a b) e H x' e' H' → Rel P r' s' e' H' → Ext r r' → Kp s s' → (∀ t, t ∉ asg a ++ asg b → lk e' t = lk e t) →
            (match x' with
            | .normal => toSh s sh s' (fun y => ofSh s (asg a ++ asg b) sh y fun s' => k .normal s')
            | x => k x s') = some y → DenOk cf (.cond c a b) P r s e H k y := by
          intro x' e' H' s' r' b1 b2 b3 b4 b5 b6
          cases x' with
          | normal =>
            simp only at b6
            obtain ⟨z, c1, c2⟩ := toSh_some b6
            obtain ⟨s1, c3, c4⟩ := ofSh_some c2
            obtain ⟨s2, r2, d1, d2, d3, d4, _⟩ := join_sound h b2 b3 b4 b5 c1
            rw [c3] at d1
            obtain rfl := Option.some.inj d1
            exact ⟨_, e', H', s1, r2, b1, d2, d3, d4, b5, c4⟩
          | exit id => exact ⟨_, e', H', s', r', b1, b2, b3, b4, b5, b6⟩
          | ret => exact ⟨_, e', H', s', r', b1, b2, b3, b4, b5, b6⟩
        unfold br at hk1
        cases x with
        | true =>
          simp only [cond_true] at hk1
          obtain ⟨x', e', H', s', r', b1, b2, b3, b4, b5, b6⟩ := hleft _ rfl (den_sound hcs (hset true rfl) hk1)
          exact hjoin b1 b2 b3 b4 b5 b6
        | false =>
          simp only [cond_false] at hk1
          obtain ⟨x', e', H', s', r', b1, b2, b3, b4, b5, b6⟩ := hright _ rfl (den_sound hcs (hset false rfl) hk1)
          exact hjoin b1 b2 b3 b4 b5 b6
    · simp at hk1
  | .block id b, i, P, r, s, e, H, k, y, h, hk => by
    simp only [den] at hk
    split at hk
    · obtain ⟨x, e1, H1, s1, r1, ⟨n1, a1⟩, a2, a3, a4, a5, a6⟩ := den_sound hcs h hk
      cases x with
      | normal => exact ⟨_, e1, H1, s1, r1, ⟨n1, fun n hn => by simp only [evC, a1 n hn]⟩, a2, a3, a4, a5, a6⟩
      | ret => exact ⟨_, e1, H1, s1, r1, ⟨n1, fun n hn => by simp only [evC, a1 n hn]⟩, a2, a3, a4, a5, a6⟩
      | exit id' =>
        simp only at a6
        cases hb : id'.beq id with
        | true =>
          rw [hb, cond_true] at a6
          exact ⟨_, e1, H1, s1, r1, ⟨n1, fun n hn => by simp only [evC, a1 n hn, hb, cond_true]⟩, a2, a3, a4, a5, a6⟩
        | false =>
          rw [hb, cond_false] at a6
          exact ⟨_, e1, H1, s1, r1, ⟨n1, fun n hn => by simp only [evC, a1 n hn, hb, cond_false]⟩, a2, a3, a4, a5, a6⟩
    · rename_i sh _
      unfold jp at hk
      obtain ⟨x, e1, H1, s1, r1, ⟨n1, a1⟩, a2, a3, a4, a5, a6⟩ := den_sound hcs h hk
      have hjoin : CodeEv cf (.block id b) e H .normal e1 H1 → toSh s sh s1 (fun y => ofSh s (asg b) sh y fun s' => k .normal s') = some y → DenOk cf (.block id b) P r s e H k y := by
        intro b1 b6
        obtain ⟨z, c1, c2⟩ := toSh_some b6
        obtain ⟨s2, c3, c4⟩ := ofSh_some c2
        obtain ⟨s3, r3, d1, d2, d3, d4, _⟩ := join_sound h a2 a3 a4 a5 c1
        rw [c3] at d1
        obtain rfl := Option.some.inj d1
        exact ⟨_, e1, H1, s2, r3, b1, d2, d3, d4, a5, c4⟩
      cases x with
      | normal => exact hjoin ⟨n1, fun n hn => by simp only [evC, a1 n hn]⟩ a6
      | ret => exact ⟨_, e1, H1, s1, r1, ⟨n1, fun n hn => by simp only [evC, a1 n hn]⟩, a2, a3, a4, a5, a6⟩
      | exit id' =>
        simp only at a6
        cases hb : id'.beq id with
        | true =>
          rw [hb, cond_true] at a6
          exact hjoin ⟨n1, fun n hn => by simp only [evC, a1 n hn, hb, cond_true]⟩ a6
        | false =>
          rw [hb, cond_false] at a6
          exact ⟨_, e1, H1, s1, r1, ⟨n1, fun n hn => by simp only [evC, a1 n hn, hb, cond_false]⟩, a2, a3, a4, a5, a6⟩
  | .loop b, i, P, r, s, e, H, k, y, h, hk => by
    simp only [den] at hk
    obtain ⟨sh, hsh, hk1⟩ := orNone_some hk
    obtain ⟨z, c1, c2⟩ := toSh_some hk1
    obtain ⟨s1, r1, d1, d2, d3, d4, _⟩ := join_sound (kill := asg b) h h (Ext.refl r) (Kp.refl s) (fun t _ => rfl) c1
    have key : ∀ (m : Nat) {z : HL sh.sig} {s1 : St} {r1 : RM} {e1 : Env} {H1 : Heap}, conS s (asg b) sh z = some s1 → Rel P r1 s1 e1 H1 → Ext r r1 → Kp s s1 → (∀ t, t ∉ asg b → lk e1 t = lk e t) →
        fixN m (fun again y => ofSh s (asg b) sh y fun s' => den N callS hint an (i + 1) b s' fun x s' => match x with
          | .normal => toSh s sh s' again
          | x => k x s') z = some y →
        ∃ x e' H' s' r', (∃ n0 j0, ∀ n, n0 ≤ n → ∀ j, j0 ≤ j → loopN (fun e h => evC (cf n) n b e h) j e1 H1 = some (x, e', H')) ∧ Rel P r' s' e' H' ∧ Ext r r' ∧ Kp s s' ∧ (∀ t, t ∉ asg b → lk e' t = lk e t) ∧ k x s' = some y := by
      intro m
      induction m with
      | zero => intro z s1 r1 e1 H1 _ _ _ _ _ hf; simp [fixN] at hf
      | succ m ih =>
        intro z s1 r1 e1 H1 hc hr hx hkp hke hf
        simp only [fixN] at hf
        obtain ⟨s1', hc', hf1⟩ := ofSh_some hf
        rw [hc] at hc'
        obtain rfl := Option.some.inj hc'
        obtain ⟨x, e2, H2, s2, r2, ⟨n1, a1⟩, a2, a3, a4, a5, a6⟩ := den_sound hcs hr hf1
        have hke2 : ∀ t, t ∉ asg b → lk e2 t = lk e t := fun t ht => by rw [a5 t ht, hke t ht]
        cases x with
        | normal =>
          simp only at a6
          obtain ⟨z2, g1, g2⟩ := toSh_some a6
          obtain ⟨s3, r3, q1, q2, q3, q4, _⟩ := join_sound h a2 (hx.trans a3) (hkp.trans a4) hke2 g1
          obtain ⟨x', e', H', s', r', ⟨n2, j2, b1⟩, b2⟩ := ih q1 q2 q3 q4 hke2 g2
          refine ⟨x', e', H', s', r', ⟨max n1 n2, j2 + 1, fun n hn j hj => ?_⟩, b2⟩
          obtain ⟨j, rfl⟩ : ∃ i, j = i + 1 := ⟨j - 1, by omega⟩
          simp only [loopN, a1 n (by omega)]
          exact b1 n (by omega) j (by omega)
        | exit id =>
          refine ⟨_, e2, H2, s2, r2, ⟨n1, 1, fun n hn j hj => ?_⟩, a2, hx.trans a3, hkp.trans a4, hke2, a6⟩
          obtain ⟨j, rfl⟩ : ∃ i, j = i + 1 := ⟨j - 1, by omega⟩
          simp only [loopN, a1 n (by omega)]
        | ret =>
          refine ⟨_, e2, H2, s2, r2, ⟨n1, 1, fun n hn j hj => ?_⟩, a2, hx.trans a3, hkp.trans a4, hke2, a6⟩
          obtain ⟨j, rfl⟩ : ∃ i, j = i + 1 := ⟨j - 1, by omega⟩
          simp only [loopN, a1 n (by omega)]
    obtain ⟨x, e', H', s', r', ⟨n0, j0, b1⟩, b2⟩ := key N d1 d2 d3 d4 (fun t _ => rfl) c2
    exact ⟨x, e', H', s', r', ⟨max n0 j0, fun n hn => by simp only [evC]; exact b1 n (by omega) n (by omega)⟩, b2⟩

end
end Go.Sh

/- Contracts: what a body comes to by its shapes, the function does; and a call by its contract. No condition. -/

namespace Go.Sh
set_option linter.unusedVariables false
set_option linter.unusedSimpArgs false
open Go Go.Ev

/-- the blocks that a call is given -/
def BlksIn (r : RM) (H : Heap) : Nat → List BSh → List Dyn → Prop
  | _, [], ds => ds = []
  | k, b :: l, ds => ∃ d1 d2 w, ds = d1 ++ d2 ∧ r k = some w ∧ DB r H w b.c d1 ∧ (w.virt = false → H.has w.hb = true ∧ (b.own = true → H.wr w.hb = true)) ∧ BlksIn r H (k + 1) l d2

structure InOk (r : RM) (H : Heap) (c : Sg) (x : c.inp) (us : List AV) : Prop where
  parts : ∃ da db, ofHL _ x = da ++ db ∧ DRs r c.args da us ∧ BlksIn r H 0 c.blks db
  dm : ∀ k w, r k = some w → k < c.blks.length
  ap : ∀ i j bi bj wi wj, i ≠ j → c.blks[i]? = some bi → c.blks[j]? = some bj → (bi.own = true ∨ bj.own = true) → r i = some wi → r j = some wj → wi.virt = false → wj.virt = false → wi.hb ≠ wj.hb
  rn : ∀ x, H.has x = false → H.wr x = true

/-- a block of the call's own -/
def Mine (r : RM) (c : Sg) (x : Nat) : Prop := ∃ j b w, c.blks[j]? = some b ∧ b.own = true ∧ r j = some w ∧ w.virt = false ∧ w.hb = x

def OldsOut (q r : RM) (H : Heap) : List (Nat × CSh) → List Dyn → Prop
  | [], ds => ds = []
  | (b, c) :: l, ds => ∃ d1 d2 w, ds = d1 ++ d2 ∧ r b = some w ∧ DB q H w c d1 ∧ OldsOut q r H l d2

def NewsOut (q : RM) (H : Heap) (mine : Nat → Prop) (n0 : Heap) : Nat → List BSh → List Dyn → Prop
  | _, [], ds => ds = []
  | k, b :: l, ds => ∃ d1 d2 w, ds = d1 ++ d2 ∧ q k = some w ∧ DB q H w b.c d1 ∧ (w.virt = false → H.has w.hb = true ∧ H.wr w.hb = true ∧ (mine w.hb ∨ n0.has w.hb = false)) ∧ NewsOut q H mine n0 (k + 1) l d2

structure OutOk (r : RM) (H : Heap) (c : Sg) (y : c.res) (u : AV) (H' : Heap) (q : RM) : Prop where
  parts : ∃ d1 d2 d3, ofHL _ y = d1 ++ (d2 ++ d3) ∧ DRs q (c.out.regs.map (·.2)) d1 [u] ∧ OldsOut q r H' c.out.old d2 ∧ NewsOut q H' (Mine r c) H c.blks.length c.out.new d3
  ap1 : ∀ x ∈ c.out.old, ∀ i w w', i < c.out.new.length → r x.1 = some w → q (c.blks.length + i) = some w' → w.virt = false → w'.virt = false → w.hb ≠ w'.hb
  ap2 : ∀ i j w w', i ≠ j → i < c.out.new.length → j < c.out.new.length → q (c.blks.length + i) = some w → q (c.blks.length + j) = some w' → w.virt = false → w'.virt = false → w.hb ≠ w'.hb
  next : H.In H'
  ro : ∀ x, H'.wr x = H.wr x
  fr : ∀ x, H.has x = true → ¬ Mine r c x → H'.get x = H.get x
  lg : ∃ l, H'.log = l ++ H.log ∧ ∀ x ∈ l, Mine r c x ∨ H.has x = false

def GoodC (T : Tab) (f : Nat) (c : Ctr) : Prop := ∀ N x y, c.fn N x = some y → ∀ (r : RM) (H : Heap) (us : List AV), InOk r H c.sg x us →
  ∃ n0 u H' q, (∀ n, n0 ≤ n → evF T n f us H = some (u, H')) ∧ OutOk r H c.sg y u H' q

/-! ### a body -/
theorem blksIn_con {r : RM} {H : Heap} : ∀ {l : List BSh} {k : Nat} {ds : List Dyn} {h : Tr Blk}, BlksIn r H k l ds → ∃ h', conBs id k l ds h = some h' ∧ (∀ m, (m < k ∨ k + l.length ≤ m) → h'.get m = h.get m) ∧
    ∀ i b, l[i]? = some b → ∃ c w, h'.get (k + i) = some ⟨b.own, c⟩ ∧ r (k + i) = some w ∧ BR r H w c ∧ (w.virt = false → H.has w.hb = true ∧ (b.own = true → H.wr w.hb = true))
  | [], k, ds, h, hb => by
    simp only [BlksIn] at hb
    subst hb
    exact ⟨h, rfl, fun m _ => rfl, fun i b hi => by simp at hi⟩
  | b :: l, k, ds, h, hb => by
    obtain ⟨d1, d2, w, rfl, h2, h3, h4, h5⟩ := hb
    obtain ⟨cont, h6, h7⟩ := conC_sound (rn := id) (r' := r) (fun k w hk => hk) h3
    obtain ⟨h', h8, h9, h10⟩ := blksIn_con (h := h.set (k + 1) k (some ⟨b.own, cont⟩)) h5
    refine ⟨h', by simp only [conBs, h6]; exact h8, fun m hm => ?_, fun i b' hi => ?_⟩
    · simp only [List.length_cons] at hm
      rw [h9 m (by omega), Tr.get_set _ _ _ _ _ (by omega), if_neg (by omega)]
    · cases i with
      | zero =>
        simp only [List.getElem?_cons_zero, Option.some.injEq] at hi
        subst hi
        refine ⟨cont, w, ?_, h2, h7, h4⟩
        rw [Nat.add_zero, h9 k (by omega), Tr.get_set _ _ _ _ _ (by omega), if_pos rfl]
      | succ i =>
        simp only [List.getElem?_cons_succ] at hi
        have := h10 i b' hi
        rwa [show k + 1 + i = k + (i + 1) by omega] at this

theorem lk_paramsS {r : RM} : ∀ {vs : List SV} {us : List AV} {n t : Nat} {v : SV}, VRs r vs us → (paramsS n vs).get t = some v → ∃ u, lk (params n us) t = some u ∧ VR r v u
  | [], us, n, t, v, h, hg => by simp [paramsS, Tr.get] at hg
  | x :: vs, us, n, t, v, h, hg => by
    obtain ⟨u, us', rfl, h1, h2⟩ := h
    simp only [paramsS] at hg
    rw [Tr.get_set _ _ _ _ _ (by omega)] at hg
    simp only [params, lk]
    rw [Tr.get_set _ _ _ _ _ (by omega)]
    split at hg
    · rename_i hn
      obtain rfl := Option.some.inj hg
      rw [if_pos hn]
      exact ⟨u, rfl, h1⟩
    · rename_i hn
      rw [if_neg hn]
      exact lk_paramsS h2 hg

section
variable {ρ : Type} {P : Fr} {r : RM} {s : St} {e : Env} {H : Heap}

theorem resS_sound (h : Rel P r s e H) : ∀ {rs : List (Nat × Option (Nat × Bool))} {κ : List SV → Option ρ} {y : ρ}, resS s rs κ = some y → ∃ vs us, resOf e H rs = some us ∧ VRs r vs us ∧ κ vs = some y
  | [], κ, y, hk => ⟨[], [], rfl, rfl, hk⟩
  | (t, c) :: rs, κ, y, hk => by
    simp only [resS] at hk
    obtain ⟨v, hv, hk1⟩ := orNone_some hk
    obtain ⟨u, h1, h2⟩ := h.er t v hv
    cases c with
    | none =>
      simp only at hk1
      obtain ⟨vs, us, h3, h4, h5⟩ := resS_sound h hk1
      exact ⟨v :: vs, u :: us, by simp only [resOf, h1, h3], ⟨u, us, rfl, h2, h4⟩, h5⟩
    | some c =>
      obtain ⟨n, g⟩ := c
      simp only at hk1
      obtain ⟨hb, off, rfl, cs, h3, u2, x2, h4, h5, h6⟩ := loadS_sound h h2 hk1
      obtain ⟨vs, us, h7, h8, h9⟩ := resS_sound h h5
      refine ⟨x2 :: vs, u2 :: us, ?_, ⟨u2, us, rfl, h4, h8⟩, h9⟩
      simp only [resOf, h1, h3]
      cases g with
      | true => simp only [cond_true] at h6 ⊢; rw [h6] at *; simp only [h7]
      | false => simp only [cond_false] at h6 ⊢; rw [h6]; simp only [h7]

theorem single_sound {vs : List SV} {us : List AV} (h : VRs r vs us) : VR r (singleS vs) (single us) := by
  cases vs with
  | nil => simp only [VRs] at h; subst h; exact ⟨[], rfl, rfl⟩
  | cons v vs =>
    obtain ⟨u, us', rfl, h1, h2⟩ := h
    cases vs with
    | nil => simp only [VRs] at h2; subst h2; exact h1
    | cons v' vs =>
      obtain ⟨u', us'', rfl, h3, h4⟩ := h2
      exact ⟨_, rfl, u, _, rfl, h1, u', us'', rfl, h3, h4⟩

theorem oldsOut_of {q : RM} {r0 : RM} (hx : ∀ b w, r0 b = some w → r b = some w) : ∀ {l : List (Nat × CSh)} {ds : List Dyn}, (∀ x ∈ l, ∃ w, r0 x.1 = some w) → OldsOk q r s H l ds → OldsOut q r0 H l ds
  | [], ds, _, h => h
  | (b, c) :: l, ds, hd, ⟨d1, d2, w, k, h1, h2, h3, h4, h5, h6⟩ => by
    obtain ⟨w0, hw0⟩ := hd (b, c) (List.mem_cons_self ..)
    have := hx b w0 hw0
    rw [h2] at this
    obtain rfl := Option.some.inj this
    exact ⟨d1, d2, w, h1, hw0, h5, oldsOut_of hx (fun x hx => hd x (List.mem_cons_of_mem _ hx)) h6⟩

theorem newsOut_of {q : RM} {M : Fnd} {mine : Nat → Prop} {n0 : Heap} : ∀ {l : List BSh} {k : Nat} {ds : List Dyn}, (∀ i, i < l.length → ∀ (w : W), q (k + i) = some w → w.virt = false → H.has w.hb = true ∧ H.wr w.hb = true ∧ (mine w.hb ∨ n0.has w.hb = false)) → NewsOk q r s H M k l ds → NewsOut q H mine n0 k l ds
  | [], k, ds, _, h => h
  | b :: l, k, ds, hb, ⟨d1, d2, w, src, h1, h2, h3, h4, h5, h6⟩ => by
    refine ⟨d1, d2, w, h1, h3, h4, hb 0 (by simp) w (by simpa using h3), newsOut_of (fun i hi w hw hv => ?_) h6⟩
    exact hb (i + 1) (by simp; omega) w (by rw [← hw]; congr 1; omega) hv

end

/-- the body of a function -/
theorem body_out {cf : Nat → CallF} {N : Nat} {callS : ∀ {ρ : Type}, CallS ρ} (hcs : ∀ {ρ : Type}, CallSnd cf (callS (ρ := ρ))) {F : AFunc} {nt : Note} {c : Sg} (hok : c.ok = true) {x : c.inp} {y : c.res}
    (hf : (match startS c x with
      | some s => bodyS N callS F nt s fun v s' => toSh s c.out { s' with env := Tr.nil.set 1 0 (some v) } fun y => some y
      | none => none) = some y)
    {r : RM} {H : Heap} {us : List AV} (hi : InOk r H c x us) : ∃ n0 u H' q, (∀ n, n0 ≤ n → evBody (cf n) n F us H = some (u, H')) ∧ OutOk r H c y u H' q := by
  obtain ⟨da, db, hx, hargs, hblks⟩ := hi.parts
  obtain ⟨svs, g1, g2⟩ := conRs_sound (rn := id) (r' := r) (fun k w hk => hk) hargs
  obtain ⟨hp, g3, g4, g5⟩ := blksIn_con (h := .nil) hblks
  have hs : startS c x = some ⟨paramsS 0 svs, hp, c.blks.length, 0, []⟩ := by
    unfold startS
    rw [hx, g1]
    simp only [g3]
  rw [hs] at hf
  simp only at hf
  have hblk : ∀ b k, hp.get b = some k → ∃ bs, c.blks[b]? = some bs ∧ k.own = bs.own ∧ ∃ w, r b = some w ∧ BR r H w k.c ∧ (w.virt = false → H.has w.hb = true ∧ (bs.own = true → H.wr w.hb = true)) := by
    intro b k hk
    rcases Nat.lt_or_ge b c.blks.length with hb | hb
    · obtain ⟨cont, w, a1, a2, a3, a4⟩ := g5 b c.blks[b] (List.getElem?_eq_getElem hb)
      rw [Nat.zero_add] at a1 a2
      rw [a1] at hk
      obtain rfl := Option.some.inj hk
      exact ⟨_, List.getElem?_eq_getElem hb, rfl, w, a2, a3, a4⟩
    · rw [g4 b (by omega)] at hk
      simp [Tr.get] at hk
  have hrel : Rel ⟨H, Mine r c, H, H.log⟩ r ⟨paramsS 0 svs, hp, c.blks.length, 0, []⟩ (params 0 us) H := by
    refine ⟨fun t v hv => lk_paramsS g2 hv, fun b k hk => ?_, fun b w hw => hi.dm b w hw, fun b b' k k' w w' hne h1 h2 hown hw hw' hv hv' => ?_, fun _ h => h, fun _ => rfl, fun x _ _ => rfl, Nat.zero_le _, hi.rn, ⟨[], rfl, fun x hx => by simp at hx, fun b k w _ _ _ hlt => by simp at hlt⟩⟩
    · obtain ⟨bs, h1, h2, w, h3, h4, h5⟩ := hblk b k hk
      have hlt : b < c.blks.length := hi.dm b w h3
      exact ⟨w, h3, h4, hlt, fun hv => ⟨(h5 hv).1, fun ho => ⟨(h5 hv).2 (h2 ▸ ho), .inl ⟨b, bs, w, h1, h2 ▸ ho, h3, hv, rfl⟩⟩⟩⟩
    · obtain ⟨bs, a1, a2, _⟩ := hblk b k h1
      obtain ⟨bs', b1, b2, _⟩ := hblk b' k' h2
      exact hi.ap b b' bs bs' w w' hne a1 b1 (by rw [← a2, ← b2]; exact hown) hw hw' hv hv'
  unfold bodyS at hf
  obtain ⟨xx, e', H', s', r', ⟨n0, a1⟩, a2, a3, a4, a5, a6⟩ := den_sound hcs hrel hf
  have hfin : ∀ {κ : List SV → Option c.res}, (κ = fun vs => toSh ⟨paramsS 0 svs, hp, c.blks.length, 0, []⟩ c.out { s' with env := Tr.nil.set 1 0 (some (singleS vs)) } fun y => some y) → resS s' F.results κ = some y →
      ∃ us', resOf e' H' F.results = some us' ∧ ∃ q, OutOk r H c y (single us') H' q := by
    rintro κ rfl hr
    obtain ⟨vs, us', b1, b2, b3⟩ := resS_sound a2 hr
    refine ⟨us', b1, ?_⟩
    obtain ⟨z, c1, c2⟩ := toSh_some b3
    obtain rfl := Option.some.inj c2
    have hv := single_sound b2
    have hrel2 : Rel ⟨H, Mine r c, H, H.log⟩ r' { s' with env := Tr.nil.set 1 0 (some (singleS vs)) } (Tr.nil.set 1 0 (some (single us'))) H' := by
      refine ⟨fun t v ht => ?_, a2.br, a2.dm, a2.ap, a2.nx, a2.ro, a2.fr, a2.st, a2.rn, a2.lg⟩
      rw [Tr.get_set _ _ _ _ _ (by omega)] at ht
      split at ht
      · rename_i h0
        obtain rfl := Option.some.inj ht
        subst h0
        exact ⟨_, by simp only [lk]; rw [Tr.get_set _ _ _ _ _ (by omega), if_pos rfl], hv⟩
      · simp [Tr.get] at ht
    have hrel0 : Rel ⟨H, Mine r c, H, H.log⟩ r ⟨Tr.nil, hp, c.blks.length, 0, []⟩ (Tr.nil.set 1 0 (some (single us'))) H :=
      ⟨fun t v ht => by simp [Tr.get] at ht, hrel.br, hrel.dm, hrel.ap, hrel.nx, hrel.ro, hrel.fr, hrel.st, hrel.rn, hrel.lg⟩
    -- the same shape, seen from the start without registers
    have habs : absS ⟨Tr.nil, hp, c.blks.length, 0, []⟩ { s' with env := Tr.nil.set 1 0 (some (singleS vs)) } c.out = some (true, z) := c1
    have hkp0 : Kp ⟨Tr.nil, hp, c.blks.length, 0, []⟩ { s' with env := Tr.nil.set 1 0 (some (singleS vs)) } := ⟨a4.next, a4.start, a4.log⟩
    obtain ⟨s1, q, d1, d2, d3, d4, ⟨M, d5⟩, d6, d7⟩ := join_sound (kill := []) hrel0 hrel2 a3 hkp0 (fun t _ => rfl) habs
    obtain ⟨p1, p2, p3, ur, e1, e2, e3, e4, e5⟩ := d5.parts
    unfold Sg.ok at hok
    simp only [Bool.and_eq_true, Nat.beq_eq] at hok
    obtain ⟨⟨⟨⟨ok1, ok2⟩, ok3⟩, _⟩, ok4⟩ := hok
    have hone : ∀ (i : Nat) (b : BSh), c.out.new[i]? = some b → b.own = true := fun i b hb => List.all_eq_true.1 ok2 b (List.mem_of_getElem? hb)
    have hur : ur = [single us'] := by
      cases hreg : c.out.regs with
      | nil => rw [hreg] at ok3; simp at ok3
      | cons g gs =>
        cases gs with
        | cons _ _ => rw [hreg] at ok3; simp at ok3
        | nil =>
          rw [hreg] at e2
          obtain ⟨u0, us0, rfl, k1, k2⟩ := e2
          simp only [RegsAre] at k2
          subst k2
          simp only [lk] at k1
          rw [Tr.get_set _ _ _ _ _ (by omega)] at k1
          split at k1
          · obtain rfl := Option.some.inj k1; rfl
          · simp [Tr.get] at k1
    subst hur
    have hnewW : ∀ i, i < c.out.new.length → ∀ w, q (c.blks.length + i) = some w → w.virt = false → H'.has w.hb = true ∧ H'.wr w.hb = true ∧ (Mine r c w.hb ∨ H.has w.hb = false) := by
      intro i hi w hw hv
      obtain ⟨cc, hcc⟩ := d6 i c.out.new[i] (List.getElem?_eq_getElem hi)
      obtain ⟨w', k1, k2, k3, k4⟩ := d2.br _ _ hcc
      have hw' : q (c.blks.length + i) = some w' := k1
      rw [hw] at hw'
      obtain rfl := Option.some.inj hw'
      obtain ⟨k5, k6⟩ := k4 hv
      obtain ⟨k7, k8⟩ := k6 (hone i _ (List.getElem?_eq_getElem hi))
      exact ⟨k5, k7, k8⟩
    have hold0 : ∀ x ∈ c.out.old, ∃ w, r x.1 = some w := by
      intro x hx
      have hb : x.1 < c.blks.length := d5.below x.1 (List.mem_append.2 (.inl (List.mem_map.2 ⟨x, hx, rfl⟩)))
      obtain ⟨_, w, _, k2, _⟩ := g5 x.1 c.blks[x.1] (List.getElem?_eq_getElem hb)
      rw [Nat.zero_add] at k2
      exact ⟨w, k2⟩
    refine ⟨q, ⟨⟨p1, p2, p3, e1, e3, oldsOut_of a3 hold0 e4, newsOut_of hnewW e5⟩, ?_, ?_, a2.nx, a2.ro, a2.fr, ?_⟩⟩
    · intro x hx i w w' hi hw hw' hv hv'
      obtain ⟨cc, hcc⟩ := d6 i c.out.new[i] (List.getElem?_eq_getElem hi)
      obtain ⟨cx, hcx⟩ := d7 x hx
      have hb : x.1 < c.blks.length := d5.below x.1 (List.mem_append.2 (.inl (List.mem_map.2 ⟨x, hx, rfl⟩)))
      exact d2.ap x.1 (c.blks.length + i) _ _ w w' (by omega) hcx hcc (.inl rfl) (d3 _ _ hw) hw' hv hv'
    · intro i j w w' hij hi hj hw hw' hv hv'
      obtain ⟨ci, hci⟩ := d6 i c.out.new[i] (List.getElem?_eq_getElem hi)
      obtain ⟨cj, hcj⟩ := d6 j c.out.new[j] (List.getElem?_eq_getElem hj)
      exact d2.ap (c.blks.length + i) (c.blks.length + j) _ _ w w' (by omega) hci hcj (.inl (hone i _ (List.getElem?_eq_getElem hi))) hw hw' hv hv'
    · obtain ⟨l, k1, k2, _⟩ := a2.lg
      exact ⟨l, k1, k2⟩
  cases xx with
  | exit id => simp at a6
  | normal =>
    simp only at a6
    obtain ⟨us', b1, q, b2⟩ := hfin rfl a6
    exact ⟨n0, _, H', q, fun n hn => by simp only [evBody, a1 n hn, b1], b2⟩
  | ret =>
    simp only at a6
    obtain ⟨us', b1, q, b2⟩ := hfin rfl a6
    exact ⟨n0, _, H', q, fun n hn => by simp only [evBody, a1 n hn, b1], b2⟩

end Go.Sh

/- Contracts of functions by how they are called, and a call by a contract. No condition. -/

namespace Go.Sh
set_option linter.unusedVariables false
set_option linter.unusedSimpArgs false
open Go Go.Ev

def GoodK (T : Tab) (K : CTab) : Prop := ∀ f svs c, K f svs = some c → GoodC T f c ∧ c.sg.ok = true

section
variable {ρ : Type} {P : Fr} {r : RM} {s : St} {e : Env} {H : Heap}

theorem blksIn_of {M : Fnd} {q : RM} (hb : ∀ b k w, s.heap.get b = some k → r b = some w → w.virt = false → H.has w.hb = true ∧ (k.own = true → H.wr w.hb = true)) :
    ∀ {l : List BSh} {k : Nat} {ds : List Dyn}, NewsOk q r s H M k l ds → BlksIn q H k l ds
  | [], k, ds, h => h
  | b :: l, k, ds, ⟨d1, d2, w, src, h1, h2, h3, h4, h5, h6⟩ => by
    refine ⟨d1, d2, w, h1, h3, h4, fun hv => ?_, blksIn_of hb h6⟩
    rcases h5 with h5 | ⟨c, kc, w0, _, g2, g3, g4, g5, _, g7⟩
    · rw [hv] at h5; simp at h5
    · obtain ⟨a1, a2⟩ := hb c kc w0 g2 g4 g5
      rw [g7]
      exact ⟨a1, fun ho => a2 (g3 ho)⟩

theorem newsOk_get {M : Fnd} {q : RM} : ∀ {l : List BSh} {k : Nat} {ds : List Dyn}, NewsOk q r s H M k l ds → ∀ i b, l[i]? = some b → ∃ w src, q (k + i) = some w ∧ M.get (k + i) = some src ∧ Orig r s b.own src w
  | [], k, ds, h, i, b, hi => by simp at hi
  | b :: l, k, ds, ⟨d1, d2, w, src, h1, h2, h3, h4, h5, h6⟩, i, b', hi => by
    cases i with
    | zero =>
      simp only [List.getElem?_cons_zero, Option.some.injEq] at hi
      subst hi
      exact ⟨w, src, h3, h2, h5⟩
    | succ i =>
      simp only [List.getElem?_cons_succ] at hi
      have := newsOk_get h6 i b' hi
      rwa [show k + 1 + i = k + (i + 1) by omega] at this

/-- blocks told, under a caller's numbers -/
theorem conOld_out {rn : Nat → Nat} {q rT r0 : RM} (hv : Via rn q rT) : ∀ {l : List (Nat × CSh)} {ds : List Dyn} {h : Tr Blk}, OldsOut q r0 H l ds → (l.map fun x => rn x.1).Nodup →
    ∃ h', (∀ rest, conOld rn l (ds ++ rest) h = some (h', rest)) ∧ (∀ m, (∀ x ∈ l, m ≠ rn x.1) → h'.get m = h.get m) ∧
      ∀ x ∈ l, ∃ c w, h'.get (rn x.1) = some ⟨true, c⟩ ∧ r0 x.1 = some w ∧ BR rT H w c
  | [], ds, h, ho, _ => by
    simp only [OldsOut] at ho
    subst ho
    exact ⟨h, fun rest => rfl, fun m _ => rfl, fun x hx => by simp at hx⟩
  | (b, c) :: l, ds, h, ho, hn => by
    obtain ⟨d1, d2, w, rfl, h1, h4, h5⟩ := ho
    obtain ⟨cont, h6, h7⟩ := conC_sound hv h4
    rw [List.map_cons, List.nodup_cons] at hn
    obtain ⟨h', h8, h9, h10⟩ := conOld_out hv (h := h.set (rn b + 1) (rn b) (some ⟨true, cont⟩)) h5 hn.2
    refine ⟨h', fun rest => by simp only [conOld, List.append_assoc, h6, h8], fun m hm => ?_, fun x hx => ?_⟩
    · rw [h9 m (fun x hx => hm x (List.mem_cons_of_mem _ hx)), Tr.get_set _ _ _ _ _ (by omega), if_neg (hm _ (List.mem_cons_self ..))]
    · rcases List.mem_cons.1 hx with rfl | hx
      · refine ⟨cont, w, ?_, h1, h7⟩
        rw [h9 (rn b) (fun x hx he => hn.1 (List.mem_map.2 ⟨x, hx, he.symm⟩)), Tr.get_set _ _ _ _ _ (by omega), if_pos rfl]
      · exact h10 x hx

theorem conBs_out {rn : Nat → Nat} {q rT : RM} {mine : Nat → Prop} {n0 : Heap} (hv : Via rn q rT) : ∀ {l : List BSh} {k : Nat} {ds : List Dyn} {h : Tr Blk}, NewsOut q H mine n0 k l ds → (∀ i j, i < l.length → j < l.length → rn (k + i) = rn (k + j) → i = j) →
    ∃ h', conBs rn k l ds h = some h' ∧ (∀ m, (∀ i, i < l.length → m ≠ rn (k + i)) → h'.get m = h.get m) ∧
      ∀ i b, l[i]? = some b → ∃ c w, h'.get (rn (k + i)) = some ⟨b.own, c⟩ ∧ q (k + i) = some w ∧ BR rT H w c ∧ (w.virt = false → H.has w.hb = true ∧ H.wr w.hb = true ∧ (mine w.hb ∨ n0.has w.hb = false))
  | [], k, ds, h, hn, _ => by
    simp only [NewsOut] at hn
    subst hn
    exact ⟨h, rfl, fun m _ => rfl, fun i b hi => by simp at hi⟩
  | b :: l, k, ds, h, hn, hinj => by
    obtain ⟨d1, d2, w, rfl, h2, h3, h4, h5⟩ := hn
    obtain ⟨cont, h6, h7⟩ := conC_sound hv h3
    have hsh : ∀ i, k + 1 + i = k + (i + 1) := fun i => by omega
    obtain ⟨h', h8, h9, h10⟩ := conBs_out hv (h := h.set (rn k + 1) (rn k) (some ⟨b.own, cont⟩)) h5 (fun i j hi hj he => by
      rw [hsh, hsh] at he
      have := hinj (i + 1) (j + 1) (by simp; omega) (by simp; omega) he
      omega)
    refine ⟨h', by simp only [conBs, h6, h8], fun m hm => ?_, fun i b' hi => ?_⟩
    · rw [h9 m (fun i hi => by rw [hsh]; exact hm (i + 1) (by simp; omega)), Tr.get_set _ _ _ _ _ (by omega), if_neg (by have := hm 0 (by simp); simpa using this)]
    · cases i with
      | zero =>
        simp only [List.getElem?_cons_zero, Option.some.injEq] at hi
        subst hi
        refine ⟨cont, w, ?_, h2, h7, h4⟩
        rw [Nat.add_zero, h9 (rn k) (fun i hi he => by
          rw [hsh] at he
          have := hinj 0 (i + 1) (by simp) (by simp; omega) (by simpa using he)
          omega), Tr.get_set _ _ _ _ _ (by omega), if_pos rfl]
      | succ i =>
        simp only [List.getElem?_cons_succ] at hi
        have := h10 i b' hi
        rwa [hsh] at this

theorem OldsOut.on {q q' r0 : RM} : ∀ {l : List (Nat × CSh)} {ds : List Dyn}, (∀ k ∈ refsO l, ∀ w, q k = some w → q' k = some w) → OldsOut q r0 H l ds → OldsOut q' r0 H l ds
  | [], ds, _, k => k
  | (b, c) :: l, ds, h, ⟨d1, d2, w, h1, h2, h3, h4⟩ =>
    ⟨d1, d2, w, h1, h2, DB.on (fun k hk => h k (List.mem_append.2 (.inl hk))) h3, OldsOut.on (fun k hk => h k (List.mem_append.2 (.inr hk))) h4⟩

theorem NewsOut.on {q q' : RM} {mine : Nat → Prop} {n0 : Heap} : ∀ {l : List BSh} {k : Nat} {ds : List Dyn}, (∀ k ∈ refsB l, ∀ w, q k = some w → q' k = some w) → (∀ i, i < l.length → q' (k + i) = q (k + i)) → NewsOut q H mine n0 k l ds → NewsOut q' H mine n0 k l ds
  | [], k, ds, _, _, g => g
  | b :: l, k, ds, h, hk, ⟨d1, d2, w, h1, h2, h3, h4, h5⟩ => by
    refine ⟨d1, d2, w, h1, ?_, DB.on (fun k hk => h k (List.mem_append.2 (.inl hk))) h3, h4, NewsOut.on (fun k hk => h k (List.mem_append.2 (.inr hk))) (fun i hi => ?_) h5⟩
    · have := hk 0 (by simp)
      rw [Nat.add_zero] at this
      rw [this]; exact h2
    · have := hk (i + 1) (by simp; omega)
      rwa [show k + (i + 1) = k + 1 + i by omega] at this

theorem lentOk_get {blks : List BSh} {M : Fnd} : ∀ {l : List Nat}, lentOk blks M l = true → ∀ j ∈ l, ∃ b c, blks[j]? = some b ∧ b.own = true ∧ M.get j = some (.blk c)
  | [], _, j, hj => by simp at hj
  | x :: l, h, j, hj => by
    simp only [lentOk, Bool.and_eq_true] at h
    rcases List.mem_cons.1 hj with rfl | hj
    · have h1 := h.1
      split at h1
      · rename_i b c hb hc
        exact ⟨b, c, hb, h1, hc⟩
      · simp at h1
    · exact lentOk_get h.2 j hj

theorem absC_sub (h : Rel P r s e H) {base : Nat} {own : Bool} {c : CSh} {src : Src} {M : Fnd} {a : Ab} (ha : absC s base own c src M = some a) : SubM M a.M := by
  unfold absC at ha
  split at ha
  · split at ha
    · obtain ⟨ho, ha⟩ := bif_some' ha
      exact (absR_sound (bl := []) h ha).1
    · simp at ha
  · split at ha
    · obtain ⟨ho, ha⟩ := bif_some' ha
      split at ha
      · obtain rfl := Option.some.inj ha; exact SubM.refl _
      · simp at ha
    · simp at ha
  · split at ha
    · obtain ⟨ho, ha⟩ := bif_some' ha
      split at ha
      · obtain rfl := Option.some.inj ha; exact SubM.refl _
      · simp at ha
    · simp at ha
  · obtain ⟨ho, ha⟩ := bif_some' ha
    obtain rfl := Option.some.inj ha; exact SubM.refl _
  · simp at ha

theorem absBs_sub (h : Rel P r s e H) {base : Nat} : ∀ {l : List BSh} {k : Nat} {M : Fnd} {a : Ab}, absBs s base k l M = some a → SubM M a.M
  | [], k, M, a, ha => by
    simp only [absBs, Option.some.injEq] at ha
    subst ha
    exact SubM.refl _
  | b0 :: l, k, M, a, ha => by
    simp only [absBs] at ha
    split at ha
    · split at ha
      · rename_i p hp
        split at ha
        · rename_i q hq
          obtain rfl := Option.some.inj ha
          exact (absC_sub h hp).trans (absBs_sub (a := q) h hq)
        · simp at ha
      · simp at ha
    · simp at ha

/-- whole blocks are there -/
theorem absBs_pres (h : Rel P r s e H) {base : Nat} : ∀ {l : List BSh} {k : Nat} {M : Fnd} {a : Ab}, absBs s base k l M = some a → MOk r M → ∀ {Mf : Fnd}, SubM a.M Mf → ∀ i b src d, l[i]? = some b → Mf.get (k + i) = some src → srcB src = some d → ∃ kd, s.heap.get d = some kd ∧ (b.own = true → kd.own = true)
  | [], k, M, a, ha, hm, Mf, hs, i, b, sr, d, hi, hd, hsd => by simp at hi
  | b0 :: l, k, M, a, ha, hm, Mf, hs, i, b, sr, d, hi, hd, hsd => by
    simp only [absBs] at ha
    split at ha
    · rename_i src hsrc
      split at ha
      · rename_i p hp
        split at ha
        · rename_i q hq
          obtain rfl := Option.some.inj ha
          obtain ⟨h1, h2, _⟩ := absC_sound (bl := []) h hp hm (fun b o l he => by subst he; exact hm k b o l hsrc)
          have h3 : SubM p.M q.M := absBs_sub (a := q) h hq
          cases i with
          | zero =>
            simp only [List.getElem?_cons_zero, Option.some.injEq] at hi
            subst hi
            have := hs _ _ (h3 _ _ (h1 _ _ hsrc))
            rw [Nat.add_zero, this] at hd
            obtain rfl := Option.some.inj hd
            unfold absC at hp
            split at hp
            · split at hp
              · rename_i own' v hk
                obtain ⟨ho, _⟩ := bif_some' hp
                simp only [srcB, Option.some.injEq] at hsd
                subst hsd
                exact ⟨_, hk, own_imp ho⟩
              · simp at hp
            · split at hp
              · rename_i own' t' xs hk
                obtain ⟨ho, _⟩ := bif_some' hp
                simp only [srcB, Option.some.injEq] at hsd
                subst hsd
                exact ⟨_, hk, own_imp ho⟩
              · simp at hp
            · split at hp
              · rename_i own' t' xs hk
                obtain ⟨ho, _⟩ := bif_some' hp
                simp only [srcB, Option.some.injEq] at hsd
                subst hsd
                exact ⟨_, hk, own_imp ho⟩
              · simp at hp
            · simp [srcB] at hsd
            · simp at hp
          | succ i =>
            simp only [List.getElem?_cons_succ] at hi
            exact absBs_pres h hq h2 hs i b sr d hi (by rw [← hd]; congr 1; omega) hsd
        · simp at ha
      · simp at ha
    · simp at ha

/-- a call by a contract -/
theorem callC_sound {cf : Nat → CallF} {f : Nat} {c : Sg} {fn : Nat → c.inp → Option c.res}
    (hg : ∀ N x y, fn N x = some y → ∀ (r : RM) (H : Heap) (us : List AV), InOk r H c x us → ∃ n0 u H' q, (∀ n, n0 ≤ n → cf n f us H = some (u, H')) ∧ OutOk r H c y u H' q) (hok : c.ok = true)
    (h : Rel P r s e H) {N : Nat} {svs : List SV} {us : List AV} {κ : SV → St → Option ρ} {y : ρ} (hus : VRs r svs us) (hk : callC N c fn svs s κ = some y) :
    ∃ n0 u H' v s' r', (∀ n, n0 ≤ n → cf n f us H = some (u, H')) ∧ Rel P r' s' e H' ∧ VR r' v u ∧ Ext r r' ∧ Kp s s' ∧ s'.env = s.env ∧ κ v s' = some y := by
  unfold callC at hk
  split at hk
  · simp at hk
  rename_i x hx
  split at hk
  · simp at hk
  rename_i z hz
  obtain ⟨hb, hk1⟩ := bif_some' hk
  clear hk
  simp only [Bool.and_eq_true] at hb
  obtain ⟨⟨hrefs, hap⟩, hlent⟩ := hb
  split at hk1
  rotate_left
  · simp at hk1
  rename_i hh hhl
  obtain ⟨hgg, hk2⟩ := chk_some hk1
  clear hk1
  simp only [Bool.and_eq_true] at hgg
  obtain ⟨g1, g2⟩ := hgg
  unfold bindS at hk2
  split at hk2
  rotate_left
  · simp at hk2
  rename_i yc hyc
  -- what the call is given
  obtain ⟨a1, a2, _⟩ := absRs_sound (bl := c.blks) h hx
  have m1 := (absRs_mok hx).1 hus (MOk.nil r)
  obtain ⟨c1, c2, c3⟩ := absBs_sound (bl := c.blks) (base := 0) h (Nat.le_refl _) (by simp) hz m1
  let rin : RM := fun k => if k < c.blks.length then newR r 0 c.blks z.M k else none
  have hrl : ∀ k ∈ refsL c.args ++ refsB c.blks, k < c.blks.length := fun k hk => blt_iff.1 (List.all_eq_true.1 hrefs k hk)
  have hon : ∀ l : List Nat, (∀ k ∈ l, k ∈ refsL c.args ++ refsB c.blks) → ∀ k ∈ l, ∀ w, newR r 0 c.blks z.M k = some w → rin k = some w :=
    fun l hl k hk w hw => by show (if k < c.blks.length then _ else none) = _; rw [if_pos (hrl k (hl k hk))]; exact hw
  have hnews : NewsOk rin r s H z.M 0 c.blks z.ds := NewsOk.on (hon _ fun k hk => by simp [hk]) (fun i hi => if_pos (by omega)) (c3 g2 (SubM.refl _))
  have hargs : DRs rin c.args x.ds us := DRs.on (hon _ fun k hk => by simp [hk]) (a2 g1 hus c1)
  have hsb : ∀ b k w, s.heap.get b = some k → r b = some w → w.virt = false → H.has w.hb = true ∧ (k.own = true → H.wr w.hb = true) := by
    intro b k w hb hw hv
    obtain ⟨w', q1, _, _, q4⟩ := h.br b k hb
    rw [hw] at q1
    obtain rfl := Option.some.inj q1
    exact ⟨(q4 hv).1, fun ho => ((q4 hv).2 ho).1⟩
  obtain ⟨ap1, ap2⟩ := apartM_sound hap
  have horig : ∀ i b w, c.blks[i]? = some b → rin i = some w → w.virt = false → ∃ src d kd w0, z.M.get i = some src ∧ srcB src = some d ∧ s.heap.get d = some kd ∧ (b.own = true → kd.own = true) ∧ r d = some w0 ∧ w0.virt = false ∧ w.hb = w0.hb := by
    intro i b w hi hw hv
    obtain ⟨w', src, q1, q2, q3⟩ := newsOk_get hnews i b hi
    rw [Nat.zero_add] at q1 q2
    rw [hw] at q1
    obtain rfl := Option.some.inj q1
    rcases q3 with q3 | ⟨d, kd, w0, p1, p2, p3, p4, p5, _, p7⟩
    · rw [hv] at q3; simp at q3
    · exact ⟨src, d, kd, w0, q2, p1, p2, p3, p4, p5, p7⟩
  have hin : InOk rin H c hh us := by
    refine ⟨⟨x.ds, z.ds, toHL_sound hhl, hargs, blksIn_of hsb hnews⟩, fun k w hw => ?_, fun i j bi bj wi wj hne hi hj hown hwi hwj hvi hvj heq => ?_, fun x hx => by rw [h.ro]; exact h.rn x (by cases e : P.H0.has x with
      | false => rfl
      | true => have := h.nx x e; rw [hx] at this; simp at this)⟩
    · rcases Nat.lt_or_ge k c.blks.length with hlt | hge
      · exact hlt
      · have : rin k = none := if_neg (by omega)
        rw [this] at hw; simp at hw
    · obtain ⟨si, di, kdi, w0i, p1, p2, p3, p4, p5, p6, p7⟩ := horig i bi wi hi hwi hvi
      obtain ⟨sj, dj, kdj, w0j, q1, q2, q3, q4, q5, q6, q7⟩ := horig j bj wj hj hwj hvj
      by_cases hd : di = dj
      · subst hd
        rcases Nat.lt_or_ge i j with hlt | hge
        · obtain ⟨o1, o2⟩ := ap2 i j bi bj si sj di hlt hi hj (by simpa using p1) (by simpa using q1) p2 q2
          rcases hown with ho | ho
          · rw [o1] at ho; simp at ho
          · rw [o2] at ho; simp at ho
        · obtain ⟨o1, o2⟩ := ap2 j i bj bi sj si di (by omega) hj hi (by simpa using q1) (by simpa using p1) q2 p2
          rcases hown with ho | ho
          · rw [o2] at ho; simp at ho
          · rw [o1] at ho; simp at ho
      · refine h.ap di dj kdi kdj w0i w0j hd p3 q3 ?_ p5 q5 p6 q6 (by rw [← p7, ← q7]; exact heq)
        rcases hown with ho | ho
        · exact .inl (p4 ho)
        · exact .inr (q4 ho)
  obtain ⟨n0, u, H', q, hrun, ho⟩ := hg N hh yc hyc rin H us hin
  -- the blocks that were lent
  let olds := c.out.old.map (·.1)
  let rn := rnOf z.M c.blks.length s.next
  let gn := goneN z.M c.out.gone
  let tn := olds.map rn ++ gn
  have hblt : ∀ (j : Nat) (b : BSh), c.blks[j]? = some b → j < c.blks.length := by
    intro j b p1
    rcases Nat.lt_or_ge j c.blks.length with hlt | hge
    · exact hlt
    · rw [List.getElem?_eq_none hge] at p1; simp at p1
  have hrin : ∀ j b, c.blks[j]? = some b → ∀ d, z.M.get j = some (.blk d) → rin j = r d := by
    intro j b p1 d p3
    show (if j < c.blks.length then newR r 0 c.blks z.M j else none) = r d
    rw [if_pos (hblt j b p1), newR_of (.inr ⟨Nat.zero_le _, p3⟩)]
    rfl
  have hold' : ∀ j ∈ olds, ∃ b d, c.blks[j]? = some b ∧ b.own = true ∧ z.M.get j = some (.blk d) ∧ rn j = d ∧ ∃ kd w, s.heap.get d = some kd ∧ kd.own = true ∧ r d = some w ∧ rin j = some w := by
    intro j hj
    obtain ⟨b, d, p1, p2, p3⟩ := lentOk_get hlent j hj
    have hjl := hblt j b p1
    have hrn : rn j = d := by
      show rnOf z.M c.blks.length s.next j = d
      unfold rnOf
      rw [blt_iff.2 hjl, cond_true, p3]
    obtain ⟨w, src, q1, q2, q3⟩ := newsOk_get hnews j b p1
    rw [Nat.zero_add] at q1 q2
    have hrj := hrin j b p1 d p3
    have q1' := q1
    rw [hrj] at q1
    obtain ⟨kd, hk1, hk2⟩ := absBs_pres h hz m1 (SubM.refl _) j b _ d p1 (by simpa using p3) rfl
    exact ⟨b, d, p1, p2, p3, hrn, kd, w, hk1, hk2 p2, q1, q1'⟩
  have hgn : ∀ d, d ∈ gn ↔ ∃ j ∈ c.out.gone, ∃ src, z.M.get j = some src ∧ srcB src = some d := by
    intro d
    show d ∈ goneN z.M c.out.gone ↔ _
    induction c.out.gone with
    | nil => simp [goneN]
    | cons j l ih =>
      simp only [goneN]
      split
      · rename_i src hs
        split
        · rename_i b hb
          rw [List.mem_cons, ih]
          constructor
          · rintro (rfl | ⟨j', h1, h2⟩)
            · exact ⟨j, List.mem_cons_self .., src, hs, hb⟩
            · exact ⟨j', List.mem_cons_of_mem _ h1, h2⟩
          · rintro ⟨j', h1, src', h2, h3⟩
            rcases List.mem_cons.1 h1 with rfl | h1
            · rw [hs] at h2
              obtain rfl := Option.some.inj h2
              rw [hb] at h3
              exact .inl (Option.some.inj h3).symm
            · exact .inr ⟨j', h1, src', h2, h3⟩
        · rename_i hb
          rw [ih]
          constructor
          · rintro ⟨j', h1, h2⟩
            exact ⟨j', List.mem_cons_of_mem _ h1, h2⟩
          · rintro ⟨j', h1, src', h2, h3⟩
            rcases List.mem_cons.1 h1 with rfl | h1
            · rw [hs] at h2
              obtain rfl := Option.some.inj h2
              rw [hb] at h3; simp at h3
            · exact ⟨j', h1, src', h2, h3⟩
      · rename_i hs
        rw [ih]
        constructor
        · rintro ⟨j', h1, h2⟩
          exact ⟨j', List.mem_cons_of_mem _ h1, h2⟩
        · rintro ⟨j', h1, src', h2, h3⟩
          rcases List.mem_cons.1 h1 with rfl | h1
          · rw [hs] at h2; simp at h2
          · exact ⟨j', h1, src', h2, h3⟩
  have hokk := hok
  unfold Sg.ok at hokk
  simp only [Bool.and_eq_true] at hokk
  obtain ⟨⟨⟨⟨okA, okB⟩, okC⟩, okD⟩, okE⟩ := hokk
  obtain ⟨okD, okF⟩ := okD
  have hndt : (olds ++ c.out.gone).Nodup := nodupN_iff okD
  have hgl : ∀ j ∈ c.out.gone, ∃ b, c.blks[j]? = some b := fun j hj => ⟨_, List.getElem?_eq_getElem (blt_iff.1 (List.all_eq_true.1 okF j hj))⟩
  have hmine : ∀ x, Mine rin c x → ∃ d kd w, d ∈ tn ∧ s.heap.get d = some kd ∧ kd.own = true ∧ r d = some w ∧ w.virt = false ∧ w.hb = x := by
    rintro x ⟨j, b, w, p1, p2, p3, p4, p5⟩
    have hj : j ∈ olds ++ c.out.gone := by
      have := List.all_eq_true.1 okE j (List.mem_range.2 (hblt j b p1))
      rw [p1] at this
      simp only [p2, Bool.not_true, Bool.false_or, inL_iff] at this
      exact this
    obtain ⟨src, d, kd, w0, q1, q2, q3, q4, q5, q6, q7⟩ := horig j b w p1 p3 p4
    refine ⟨d, kd, w0, ?_, q3, q4 p2, q5, q6, by rw [← q7]; exact p5⟩
    rcases List.mem_append.1 hj with hj | hj
    · obtain ⟨b', d', g1, g2, g3, g4, _⟩ := hold' j hj
      rw [g3] at q1
      obtain rfl := Option.some.inj q1
      obtain rfl := Option.some.inj q2
      exact List.mem_append.2 (.inl (List.mem_map.2 ⟨j, hj, g4⟩))
    · exact List.mem_append.2 (.inr ((hgn d).2 ⟨j, hj, src, q1, q2⟩))
  have hinj : ∀ j ∈ olds, ∀ j' ∈ olds, rn j = rn j' → j = j' := by
    intro j hj j' hj' he
    obtain ⟨b, d, p1, p2, p3, p4, _⟩ := hold' j hj
    obtain ⟨b', d', q1, q2, q3, q4, _⟩ := hold' j' hj'
    have hd : d = d' := by rw [← p4, ← q4]; exact he
    subst hd
    rcases Nat.lt_trichotomy j j' with hlt | heq | hgt
    · have := (ap2 j j' b b' _ _ d hlt p1 q1 (by simpa using p3) (by simpa using q3) rfl rfl).1
      rw [p2] at this; simp at this
    · exact heq
    · have := (ap2 j' j b' b _ _ d hgt q1 p1 (by simpa using q3) (by simpa using p3) rfl rfl).1
      rw [q2] at this; simp at this
  have hog : ∀ j ∈ olds, rn j ∉ gn := by
    intro j hj hm
    obtain ⟨b, d, p1, p2, p3, p4, _⟩ := hold' j hj
    obtain ⟨j', hj', src, q1, q2⟩ := (hgn _).1 hm
    rw [p4] at q2
    have hne : j ≠ j' := (List.nodup_append.1 hndt).2.2 j hj j' hj'
    obtain ⟨b', hb'⟩ := hgl j' hj'
    rcases Nat.lt_or_ge j j' with hlt | hge
    · have := (ap2 j j' b b' _ _ d hlt p1 hb' (by simpa using p3) (by simpa using q1) rfl q2).1
      rw [p2] at this; simp at this
    · have := (ap2 j' j b' b _ _ d (by omega) hb' p1 (by simpa using q1) (by simpa using p3) q2 rfl).2
      rw [p2] at this; simp at this
  -- the map behind
  let rT : RM := fun k => if k < s.next then r k else if k < s.next + c.out.new.length then q (c.blks.length + (k - s.next)) else none
  let q' : RM := fun k => if k < c.blks.length then none else if k < c.blks.length + c.out.new.length then q k else none
  have hrT : Ext r rT := fun b w hb => by
    have := h.dm b w hb
    show (if b < s.next then r b else _) = _
    rw [if_pos this]; exact hb
  have hvia : Via rn q' rT := by
    intro k w hw
    have hw : (if k < c.blks.length then none else if k < c.blks.length + c.out.new.length then q k else none) = some w := hw
    split at hw
    · simp at hw
    · rename_i hk
      split at hw
      · rename_i hk2
        have hrn : rn k = s.next + (k - c.blks.length) := by
          show rnOf z.M c.blks.length s.next k = _
          unfold rnOf
          rw [show Nat.blt k c.blks.length = false by
            cases hb : Nat.blt k c.blks.length with
            | false => rfl
            | true => exact absurd (blt_iff.1 hb) hk, cond_false]
        rw [hrn]
        show (if _ < s.next then _ else if _ < s.next + c.out.new.length then q (c.blks.length + (s.next + (k - c.blks.length) - s.next)) else none) = _
        rw [if_neg (by omega), if_pos (by omega), show c.blks.length + (s.next + (k - c.blks.length) - s.next) = k by omega]
        exact hw
      · simp at hw
  have hokr : ∀ k ∈ c.out.refs, c.blks.length ≤ k ∧ k < c.blks.length + c.out.new.length := by
    intro k hk
    have := List.all_eq_true.1 okA k hk
    simpa only [Bool.and_eq_true, Nat.ble_eq, blt_iff] using this
  have hon2 : ∀ l : List Nat, (∀ k ∈ l, k ∈ c.out.refs) → ∀ k ∈ l, ∀ w, q k = some w → q' k = some w := by
    intro l hl k hk w hw
    obtain ⟨k1, k2⟩ := hokr k (hl k hk)
    show (if k < c.blks.length then none else if k < c.blks.length + c.out.new.length then q k else none) = some w
    rw [if_neg (by omega), if_pos k2]; exact hw
  have hq'eq : ∀ i, i < c.out.new.length → q' (c.blks.length + i) = q (c.blks.length + i) := by
    intro i hi
    show (if c.blks.length + i < c.blks.length then none else if c.blks.length + i < c.blks.length + c.out.new.length then q (c.blks.length + i) else none) = _
    rw [if_neg (by omega), if_pos (by omega)]
  obtain ⟨d1, d2, d3, e1, e2, e3, e4⟩ := ho.parts
  have e2' := DRs.on (hon2 _ fun k hk => by unfold Shape.refs; simp [hk]) e2
  have e3' := OldsOut.on (hon2 _ fun k hk => by unfold Shape.refs; simp [hk]) e3
  have e4' := NewsOut.on (hon2 _ fun k hk => by unfold Shape.refs; simp [hk]) hq'eq e4
  obtain ⟨vs, v1, v2⟩ := conRs_sound hvia e2'
  obtain ⟨v, vs', hvs, v3, v4⟩ : ∃ v vs', vs = v :: vs' ∧ VR rT v u ∧ vs' = [] := by
    cases vs with
    | nil => simp [VRs] at v2
    | cons v vs' =>
      obtain ⟨u', us', he, k1, k2⟩ := v2
      simp only [List.cons.injEq] at he
      obtain ⟨rfl, rfl⟩ := he
      cases vs' with
      | nil => exact ⟨v, [], rfl, k1, rfl⟩
      | cons _ _ => obtain ⟨_, _, he, _⟩ := k2; simp at he
  subst v4 hvs
  have hrnb : ∀ j ∈ olds, rn j < s.next := by
    intro j hj
    obtain ⟨_, d, _, _, _, q4, kd, w, q5, _, q7, _⟩ := hold' j hj
    rw [q4]
    exact h.dm d w q7
  have hnd : ∀ l : List (Nat × CSh), (∀ x ∈ l, x.1 ∈ olds) → (l.map (·.1)).Nodup → (l.map fun x => rn x.1).Nodup := by
    intro l hl hn
    induction l with
    | nil => exact List.nodup_nil
    | cons x l ih =>
      rw [List.map_cons, List.nodup_cons] at hn ⊢
      refine ⟨fun hm => ?_, ih (fun y hy => hl y (List.mem_cons_of_mem _ hy)) hn.2⟩
      obtain ⟨y, hy, he⟩ := List.mem_map.1 hm
      have := hinj y.1 (hl y (List.mem_cons_of_mem _ hy)) x.1 (hl x (List.mem_cons_self ..)) he
      exact hn.1 (List.mem_map.2 ⟨y, hy, this⟩)
  have holdt : ∀ x ∈ c.out.old, x.1 ∈ olds := fun x hx => List.mem_map.2 ⟨x, hx, rfl⟩
  have hgnb : ∀ d ∈ gn, ∀ (i : Nat), d ≠ s.next + i := by
    intro d hd i he
    obtain ⟨j, hj, src, q1, q2⟩ := (hgn d).1 hd
    obtain ⟨b, hb⟩ := hgl j hj
    obtain ⟨kd, hkd, _⟩ := absBs_pres h hz m1 (SubM.refl _) j b src d hb (by simpa using q1) q2
    obtain ⟨_, _, _, hlt, _⟩ := h.br d kd hkd
    omega
  obtain ⟨hp1, n1, n2, n3⟩ := conOld_out hvia (h := delB id gn s.heap) e3' (hnd _ holdt (List.nodup_append.1 hndt).1)
  have hrnn : ∀ i, rn (c.blks.length + i) = s.next + i := by
    intro i
    show rnOf z.M c.blks.length s.next (c.blks.length + i) = _
    unfold rnOf
    rw [show Nat.blt (c.blks.length + i) c.blks.length = false by
      cases hb : Nat.blt (c.blks.length + i) c.blks.length with
      | false => rfl
      | true => exact absurd (blt_iff.1 hb) (by omega), cond_false]
    omega
  obtain ⟨hp2, o1, o2, o3⟩ := conBs_out hvia (h := hp1) e4' (fun i j _ _ he => by rw [hrnn, hrnn] at he; omega)
  simp only [e1] at hk2
  have hk3 : κ v { s with heap := hp2, next := s.next + c.out.new.length, log := tn ++ s.log } = some y := by
    have q1 : conRs (rnOf z.M c.blks.length s.next) (c.out.regs.map (·.2)) (d1 ++ (d2 ++ d3)) = some ([v], d2 ++ d3) := v1 _
    have q2 : conOld (rnOf z.M c.blks.length s.next) c.out.old (d2 ++ d3) (delB id (goneN z.M c.out.gone) s.heap) = some (hp1, d3) := n1 _
    have q3 : conBs (rnOf z.M c.blks.length s.next) c.blks.length c.out.new d3 hp1 = some hp2 := o1
    rw [q1] at hk2
    simp only at hk2
    rw [q2] at hk2
    simp only at hk2
    rw [q3] at hk2
    exact hk2
  -- kept blocks
  have hkeep : ∀ b, b < s.next → b ∉ tn → hp2.get b = s.heap.get b := by
    intro b hb hnt
    rw [o2 b (fun i hi => by rw [hrnn]; omega), n2 b (fun x hx he => hnt (List.mem_append.2 (.inl (List.mem_map.2 ⟨x.1, holdt x hx, he.symm⟩)))), delB_get (fun x hx he => hnt (List.mem_append.2 (.inr (by simpa using he ▸ hx))))]
  have hgone : ∀ d ∈ gn, hp2.get d = none := by
    intro d hd
    rw [o2 _ (fun i hi => by rw [hrnn]; exact hgnb d hd i), n2 _ (fun x hx he => hog x.1 (holdt x hx) (he ▸ hd))]
    exact delB_none (rn := id) hd
  have hfree : ∀ b k w, b ∉ tn → s.heap.get b = some k → r b = some w → w.virt = false → ¬ Mine rin c w.hb := by
    intro b k w hnt hk hw hv hm
    obtain ⟨d, kd, wd, p1, p3, p4, p5, p6, p7⟩ := hmine w.hb hm
    have hne : b ≠ d := fun he => hnt (he ▸ p1)
    exact h.ap b d k kd w wd hne hk p3 (.inr p4) hw p5 hv p6 p7.symm
  have hcase : ∀ b k, hp2.get b = some k →
      (b < s.next ∧ b ∉ tn ∧ s.heap.get b = some k) ∨
      (∃ x ∈ c.out.old, b = rn x.1 ∧ k.own = true ∧ ∃ w, rin x.1 = some w ∧ BR rT H' w k.c) ∨
      (∃ i bs, b = s.next + i ∧ c.out.new[i]? = some bs ∧ k.own = bs.own ∧ ∃ w, q (c.blks.length + i) = some w ∧ BR rT H' w k.c ∧ (w.virt = false → H'.has w.hb = true ∧ H'.wr w.hb = true ∧ (Mine rin c w.hb ∨ H.has w.hb = false))) := by
    intro b k hk
    rcases Nat.lt_or_ge b s.next with hb | hb
    · by_cases hto : b ∈ tn
      · rcases List.mem_append.1 hto with hjo | hjg
        · obtain ⟨j, hj, rfl⟩ := List.mem_map.1 hjo
          obtain ⟨x, hx, rfl⟩ := List.mem_map.1 hj
          obtain ⟨cc, w, g1, g2, g3⟩ := n3 x hx
          rw [o2 _ (fun i hi => by rw [hrnn]; omega), g1] at hk
          obtain rfl := Option.some.inj hk
          exact .inr (.inl ⟨x, hx, rfl, rfl, w, g2, g3⟩)
        · rw [hgone b hjg] at hk; simp at hk
      · exact .inl ⟨hb, hto, by rw [← hkeep b hb hto]; exact hk⟩
    · obtain ⟨i, rfl⟩ : ∃ i, b = s.next + i := ⟨b - s.next, by omega⟩
      rcases Nat.lt_or_ge i c.out.new.length with hi | hi
      · obtain ⟨cc, w, g1, g2, g3, g4⟩ := o3 i c.out.new[i] (List.getElem?_eq_getElem hi)
        rw [hrnn] at g1
        rw [g1] at hk
        obtain rfl := Option.some.inj hk
        rw [hq'eq i hi] at g2
        exact .inr (.inr ⟨i, _, rfl, List.getElem?_eq_getElem hi, rfl, w, g2, g3, g4⟩)
      · exfalso
        rw [o2 _ (fun j hj => by rw [hrnn]; omega), n2 _ (fun x hx he => by have := hrnb x.1 (holdt x hx); omega), delB_get (fun x hx he => hgnb x hx i (by simpa using he.symm))] at hk
        obtain ⟨_, _, _, hlt, _⟩ := h.br _ _ hk
        omega
  have hoW : ∀ x ∈ c.out.old, ∀ w, rin x.1 = some w → rT (rn x.1) = some w ∧ rn x.1 < s.next ∧ ∃ kd, s.heap.get (rn x.1) = some kd ∧ kd.own = true ∧ r (rn x.1) = some w := by
    intro x hx w hw
    obtain ⟨b, d, p1, p2, p3, p4, kd, w', p5, p6, p7, p8⟩ := hold' x.1 (holdt x hx)
    rw [hw] at p8
    obtain rfl := Option.some.inj p8
    rw [p4]
    exact ⟨hrT _ _ p7, h.dm _ _ p7, kd, p5, p6, p7⟩
  have hnewone : ∀ (i : Nat) (bs : BSh), c.out.new[i]? = some bs → bs.own = true := by
    intro i bs hi
    exact List.all_eq_true.1 okB bs (List.mem_of_getElem? hi)
  have hnlen : ∀ (i : Nat) (bs : BSh), c.out.new[i]? = some bs → i < c.out.new.length := by
    intro i bs hi
    rcases Nat.lt_or_ge i c.out.new.length with hlt | hge
    · exact hlt
    · rw [List.getElem?_eq_none hge] at hi; simp at hi
  have hnT : ∀ i, i < c.out.new.length → rT (s.next + i) = q (c.blks.length + i) := by
    intro i hi
    show (if s.next + i < s.next then _ else if s.next + i < s.next + c.out.new.length then q (c.blks.length + (s.next + i - s.next)) else none) = _
    rw [if_neg (by omega), if_pos (by omega), show s.next + i - s.next = i by omega]
  obtain ⟨l0, lg1, lg2, lg3⟩ := h.lg
  obtain ⟨l1, mg1, mg2⟩ := ho.lg
  have hnot : ∀ x, H.has x = false → P.H0.has x = false := by
    intro x hx
    rw [Bool.eq_false_iff]
    intro e
    have := h.nx x e
    rw [hx] at this
    simp at this
  have hmF : ∀ x, Mine rin c x → P.F0 x ∨ P.H0.has x = false := by
    intro x hm
    obtain ⟨d, kd, wd, p1, p3, p4, p5, p6, p7⟩ := hmine x hm
    obtain ⟨w', q1, _, _, q4⟩ := h.br d kd p3
    rw [p5] at q1
    obtain rfl := Option.some.inj q1
    rw [← p7]
    exact ((q4 p6).2 p4).2
  refine ⟨n0, u, H', v, { s with heap := hp2, next := s.next + c.out.new.length, log := tn ++ s.log }, rT, hrun, ⟨fun t v hv => ?_, fun b k hk => ?_, fun b w hw => ?_, ?_, fun x hx => ho.next x (h.nx x hx), fun x => by rw [ho.ro, h.ro], fun x hx hf => ?_, Nat.le_trans h.st (Nat.le_add_right ..), h.rn, ⟨l1 ++ l0, by rw [mg1, lg1, List.append_assoc], fun x hx => ?_, fun b k w hk hw hv hlt hnl => ?_⟩⟩,
    v3, hrT, ⟨Nat.le_add_right .., rfl, tn, rfl, fun b hb hn => hkeep b hb hn⟩, rfl, hk3⟩
  · obtain ⟨u2, k1, k2⟩ := h.er t v hv
    exact ⟨u2, k1, k2.mono hrT⟩
  · rcases hcase b k hk with ⟨h1, h2, h3⟩ | ⟨x, hx, rfl, h2, w, h3, h4⟩ | ⟨i, bs, rfl, h1, h2, w, h3, h4, h5⟩
    · obtain ⟨w, k1, k2, k3, k4⟩ := h.br b k h3
      refine ⟨w, hrT _ _ k1, BR.mono hrT (fun hv => ?_) k2, by simp only; omega, fun hv => ?_⟩
      · exact ho.fr w.hb (k4 hv).1 (hfree b k w h2 h3 k1 hv)
      · obtain ⟨q1, q2⟩ := k4 hv
        exact ⟨ho.next _ q1, fun hw => by rw [ho.ro]; exact q2 hw⟩
    · obtain ⟨p1, p2, kd, p3, p4, p5⟩ := hoW x hx w h3
      obtain ⟨w', q1, q2, q3, q4⟩ := h.br _ kd p3
      rw [p5] at q1
      obtain rfl := Option.some.inj q1
      refine ⟨w, p1, h4, by simp only; omega, fun hv => ?_⟩
      obtain ⟨q5, q6⟩ := q4 hv
      exact ⟨ho.next _ q5, fun _ => by rw [ho.ro]; exact q6 p4⟩
    · have hi := hnlen i bs h1
      refine ⟨w, by rw [hnT i hi]; exact h3, h4, by simp only; omega, fun hv => ?_⟩
      obtain ⟨q1, q2, q3⟩ := h5 hv
      refine ⟨q1, fun _ => ⟨q2, ?_⟩⟩
      rcases q3 with q3 | q3
      · exact hmF _ q3
      · exact .inr (hnot _ q3)
  · have hw : (if b < s.next then r b else if b < s.next + c.out.new.length then q (c.blks.length + (b - s.next)) else none) = some w := hw
    simp only
    split at hw
    · omega
    · split at hw
      · omega
      · simp at hw
  · -- apart
    intro b b' k k' w w' hne hk hk' hown hw hw' hv hv' heq
    have hW : ∀ {b : Nat} {w1 w2 : W}, rT b = some w1 → rT b = some w2 → w1 = w2 := fun h1 h2 => by rw [h1] at h2; exact Option.some.inj h2
    have key : ∀ b b' k k' w w', b ≠ b' → hp2.get b = some k → hp2.get b' = some k' → (k.own = true ∨ k'.own = true) → rT b = some w → rT b' = some w' → w.virt = false → w'.virt = false → w.hb = w'.hb →
        (∃ i bs, b' = s.next + i ∧ c.out.new[i]? = some bs) → False := by
      rintro b b' k k' w w' hne hk hk' hown hw hw' hv hv' heq ⟨i, bs, rfl, hi⟩
      have hil := hnlen i bs hi
      rw [hnT i hil] at hw'
      obtain ⟨_, w2, _, g2, _, g4⟩ := o3 i bs hi
      rw [hq'eq i hil, hw'] at g2
      obtain rfl := Option.some.inj g2
      obtain ⟨q1, q2, q3⟩ := g4 hv'
      rcases hcase b k hk with ⟨h1, h2, h3⟩ | ⟨x, hx, rfl, h2, w3, h3, h4⟩ | ⟨j, bs', rfl, h1, h2, w3, h3, h4, h5⟩
      · obtain ⟨w4, k1, k2, k3, k4⟩ := h.br b k h3
        have := hW hw (hrT _ _ k1)
        subst this
        rcases q3 with q3 | q3
        · exact hfree b k w h2 h3 k1 hv (heq ▸ q3)
        · have := (k4 hv).1; rw [heq, q3] at this; simp at this
      · obtain ⟨p1, _⟩ := hoW x hx w3 h3
        have := hW hw p1
        subst this
        exact ho.ap1 x hx i w w' hil h3 hw' hv hv' heq
      · have hjl := hnlen j bs' h1
        rw [hnT j hjl] at hw
        exact ho.ap2 j i w w' (fun he => hne (by rw [he])) hjl hil hw hw' hv hv' heq
    rcases hcase b' k' hk' with ⟨h1, h2, h3⟩ | ⟨x, hx, rfl, h2, w3, h3, h4⟩ | ⟨i, bs, hi1, hi2, _⟩
    · rcases hcase b k hk with ⟨g1, g2, g3⟩ | ⟨x, hx, rfl, g2, w3, g3, g4⟩ | ⟨i, bs, hi1, hi2, _⟩
      · obtain ⟨w4, k1, _⟩ := h.br b k g3
        obtain ⟨w5, k2, _⟩ := h.br b' k' h3
        have e1 := hW hw (hrT _ _ k1)
        have e2 := hW hw' (hrT _ _ k2)
        subst e1 e2
        exact h.ap b b' k k' w w' hne g3 h3 hown k1 k2 hv hv' heq
      · obtain ⟨p1, p2, kd, p3, p4, p5⟩ := hoW x hx w3 g3
        obtain ⟨w5, k2, _⟩ := h.br b' k' h3
        have e1 := hW hw p1
        have e2 := hW hw' (hrT _ _ k2)
        subst e1 e2
        exact h.ap _ b' kd k' w w' hne p3 h3 (.inl p4) p5 k2 hv hv' heq
      · exact key b' b k' k w' w (Ne.symm hne) hk' hk (Or.symm hown) hw' hw hv' hv heq.symm ⟨i, bs, hi1, hi2⟩
    · rcases hcase b k hk with ⟨g1, g2, g3⟩ | ⟨x', hx', rfl, g2, w4, g3, g4⟩ | ⟨i, bs, hi1, hi2, _⟩
      · obtain ⟨p1, p2, kd, p3, p4, p5⟩ := hoW x hx w3 h3
        obtain ⟨w5, k2, _⟩ := h.br b k g3
        have e1 := hW hw' p1
        have e2 := hW hw (hrT _ _ k2)
        subst e1 e2
        exact h.ap b _ k kd w w' hne g3 p3 (.inr p4) k2 p5 hv hv' heq
      · obtain ⟨p1, p2, kd, p3, p4, p5⟩ := hoW x hx w3 h3
        obtain ⟨p1', p2', kd', p3', p4', p5'⟩ := hoW x' hx' w4 g3
        have e1 := hW hw' p1
        have e2 := hW hw p1'
        subst e1 e2
        exact h.ap _ _ kd' kd w w' hne p3' p3 (.inl p4') p5' p5 hv hv' heq
      · exact key _ b k' k w' w (Ne.symm hne) hk' hk (Or.symm hown) hw' hw hv' hv heq.symm ⟨i, bs, hi1, hi2⟩
    · exact key b b' k k' w w' hne hk hk' hown hw hw' hv hv' heq ⟨i, bs, hi1, hi2⟩
  · rw [ho.fr x (h.nx x hx) (fun hm => by rcases hmF x hm with h1 | h1; exact hf h1; rw [h1] at hx; simp at hx)]
    exact h.fr x hx hf
  · rcases List.mem_append.1 hx with hx | hx
    · rcases mg2 x hx with h1 | h1
      · exact hmF x h1
      · exact .inr (hnot _ h1)
    · exact lg2 x hx
  · simp only at hlt hnl
    rw [List.mem_append, not_or] at hnl
    have hb : b < s.next := Nat.lt_of_lt_of_le hlt h.st
    rw [hkeep b hb hnl.1] at hk
    obtain ⟨w4, k1, _, _, k4⟩ := h.br b k hk
    have hw1 := hrT _ _ k1
    rw [hw] at hw1
    obtain rfl := Option.some.inj hw1
    obtain ⟨q1, q2⟩ := lg3 b k w hk k1 hv hlt hnl.2
    refine ⟨q1, ?_⟩
    rw [List.mem_append, not_or]
    refine ⟨fun hm => ?_, q2⟩
    rcases mg2 _ hm with h1 | h1
    · exact hfree b k w hnl.1 hk k1 hv h1
    · have := (k4 hv).1; rw [h1] at this; simp at this

theorem callK_sound {T : Tab} {K : CTab} (hK : GoodK T K) {N : Nat} : ∀ {ρ : Type}, CallSnd (evF T) (callK N K (ρ := ρ)) := by
  intro ρ P r s e H f svs us κ y h hus hk
  unfold callK at hk
  split at hk
  · rename_i c hc
    obtain ⟨h1, h2⟩ := hK f svs c hc
    exact callC_sound (cf := evF T) h1 h2 h hus hk
  · simp at hk

end
end Go.Sh

/- A function's contract, by its body and by how it is called. No condition. -/

namespace Go.Sh
set_option linter.unusedVariables false
set_option linter.unusedSimpArgs false
open Go Go.Ev

/-- no address inside -/
def flatR : RSh → Bool
  | .ty _ => true
  | .nilp => true
  | .nils => true
  | .nilf => true
  | .cst _ _ => true
  | _ => false

def freeR : RSh → Bool
  | .tup l => l.all flatR
  | r => flatR r

def scal1 : AV → Bool
  | .agg cs => cs.all AV.scalar
  | v => v.scalar

theorem scal1_free {u : AV} (h : scal1 u = true) : u.free = true := by
  cases u <;> first | exact h | simp [scal1, AV.scalar] at h

theorem tyAV_free (t : Ty) (x : t.den) : scal1 (tyAV t x) = true := by
  cases ha : t.agg with
  | true =>
    rw [tyAV_agg _ _ ha]
    exact cells_scalar t x
  | false =>
    obtain ⟨h1, _⟩ := tyAV_one t x ha
    have h2 := cells_scalar t x
    rw [h1] at h2
    simp only [List.all_cons, List.all_nil, Bool.and_true] at h2
    cases t <;> first | rfl | (simp [Ty.agg] at ha; done) | (cases x <;> rfl)

theorem flatR_free {q : RM} {sh : RSh} {ds : List Dyn} {u : AV} (h : DR q sh ds u) (hf : flatR sh = true) : scal1 u = true := by
  cases sh <;> simp only [flatR] at hf <;> first | (simp at hf; done) | skip
  case ty t => obtain ⟨x, _, rfl⟩ := h; exact tyAV_free t x
  case nilp => obtain ⟨_, rfl⟩ := h; rfl
  case nils => obtain ⟨_, rfl⟩ := h; rfl
  case nilf => obtain ⟨_, rfl⟩ := h; rfl
  case cst k n => obtain ⟨_, rfl⟩ := h; rfl

theorem freeRs {q : RM} : ∀ {l : List RSh} {ds : List Dyn} {us : List AV}, DRs q l ds us → l.all flatR = true → us.all scal1 = true
  | [], ds, us, h, _ => by obtain ⟨_, rfl⟩ := h; rfl
  | x :: l, ds, us, h, hf => by
    obtain ⟨d1, d2, u, us', _, he, h1, h2⟩ := h
    subst he
    rw [List.all_cons, Bool.and_eq_true] at hf
    rw [List.all_cons, freeRs h2 hf.2, Bool.and_true]
    exact flatR_free h1 hf.1

theorem freeR_free {q : RM} {sh : RSh} {ds : List Dyn} {u : AV} (h : DR q sh ds u) (hf : freeR sh = true) : u.free = true := by
  unfold freeR at hf
  split at hf
  · obtain ⟨us, rfl, h2⟩ := h
    have := freeRs h2 hf
    rw [List.all_eq_true] at this
    show us.all _ = true
    rw [List.all_eq_true]
    intro v hv
    have := this v hv
    cases v <;> exact this
  · exact scal1_free (flatR_free h hf)

theorem freeArgs {q : RM} : ∀ {l : List RSh} {ds : List Dyn} {us : List AV}, DRs q l ds us → l.all flatR = true → us.all AV.free = true
  | [], ds, us, h, _ => by obtain ⟨_, rfl⟩ := h; rfl
  | x :: l, ds, us, h, hf => by
    obtain ⟨d1, d2, u, us', _, he, h1, h2⟩ := h
    subst he
    rw [List.all_cons, Bool.and_eq_true] at hf
    rw [List.all_cons, freeArgs h2 hf.2, Bool.and_true]
    exact scal1_free (flatR_free h1 hf.1)

section
variable {T : Tab} {f : Nat} {K : CTab} {c : Ctr} {F : AFunc} {nt : Note}

/-- a function of which the table says nothing but its code -/
def NoSp (T : Tab) (f : Nat) : Prop := (∀ args, T.sp f args = none) ∧ T.hx f = none

theorem evF_body (hs : NoSp T f) (hT : T.fn f = some F) {n : Nat} {us : List AV} {H : Heap} : evF T (n + 1) f us H = evT T.fn (evF T n) n f us H := by
  simp only [evF, hs.1 us, hs.2]

theorem good0 (hs : NoSp T f) (hK : GoodK T K) (hT : T.fn f = some F) (hm : F.mode = 0) (hok : c.sg.ok = true) (hfn : ∀ N x, c.fn N x = fnS N K F nt c.sg x) : GoodC T f c := by
  intro N x y hy r H us hi
  rw [hfn] at hy
  obtain ⟨n0, u, H', q, h1, h2⟩ := body_out (cf := evF T) (callS := callK N K) (callK_sound hK) hok hy hi
  refine ⟨n0 + 1, u, H', q, fun n hn => ?_, h2⟩
  obtain ⟨m, rfl⟩ : ∃ m, n = m + 1 := ⟨n - 1, by omega⟩
  rw [evF_body hs hT]
  unfold evT
  rw [hT]
  simp only [hm]
  exact h1 m (by omega)

theorem frz_in {r : RM} {H : Heap} : ∀ {l : List BSh} {k : Nat} {ds : List Dyn}, (l.all fun b => !b.own) = true → BlksIn r H k l ds → BlksIn r H.frz k l ds
  | [], k, ds, _, h => h
  | ⟨own, bc⟩ :: l, k, ds, ho, ⟨d1, d2, w, h1, h2, h3, h4, h5⟩ => by
    rw [List.all_cons, Bool.and_eq_true] at ho
    refine ⟨d1, d2, w, h1, h2, ?_, fun hv => ⟨(h4 hv).1, fun hb => by simp only at hb; rw [hb] at ho; simp at ho⟩, frz_in ho.2 h5⟩
    cases bc with
    | one sh => obtain ⟨g0, u, pre, post, g1, g2, g3⟩ := h3; exact ⟨g0, u, pre, post, g1, by simpa using g2, g3⟩
    | many t =>
      obtain ⟨xs, g1, g2, g3, g4, g5⟩ := h3
      exact ⟨xs, g1, g2, g3, g4, by simpa using g5⟩

theorem InOk.frz {r : RM} {H : Heap} {c : Sg} {x : c.inp} {us : List AV} (h : InOk r H c x us) (ho : (c.blks.all fun b => !b.own) = true) : InOk r H.frz c x us := by
  obtain ⟨da, db, h1, h2, h3⟩ := h.parts
  exact ⟨⟨da, db, h1, h2, frz_in ho h3⟩, h.dm, h.ap, fun x hx => by rw [wr_frz]; rw [Heap.has_frz] at hx; rw [hx]; rfl⟩

theorem no_mine {r : RM} {c : Sg} (ho : (c.blks.all fun b => !b.own) = true) (x : Nat) : ¬ Mine r c x := by
  rintro ⟨j, b, w, h1, h2, _⟩
  have := List.all_eq_true.1 ho b (List.mem_of_getElem? h1)
  rw [h2] at this
  simp at this

/-- a result without addresses, the heap as it was -/
theorem quiet_out {r : RM} {H H1 H2 : Heap} {c : Sg} {y : c.res} {u : AV} {q : RM} (h : OutOk r H1 c y u H2 q) (ho : c.out.old = []) (hn : c.out.new = []) : OutOk r H c y u H q := by
  obtain ⟨d1, d2, d3, h1, h2, h3, h4⟩ := h.parts
  rw [ho] at h3
  rw [hn] at h4
  refine ⟨⟨d1, d2, d3, h1, h2, ?_, ?_⟩, fun x hx => by rw [ho] at hx; simp at hx, fun i j w w' _ hi => by rw [hn] at hi; simp at hi, fun _ h => h, fun _ => rfl, fun _ _ _ => rfl, ⟨[], rfl, fun x hx => by simp at hx⟩⟩
  · rw [ho]; exact h3
  · rw [hn]; exact h4

theorem regs1 {q : RM} {l : List (Nat × RSh)} {ds : List Dyn} {u : AV} (h : DRs q (l.map (·.2)) ds [u]) (hf : (l.all fun x => freeR x.2) = true) : u.free = true := by
  cases l with
  | nil => obtain ⟨_, h⟩ := h; simp at h
  | cons x l =>
    obtain ⟨d1, d2, u', us', _, he, h1, _⟩ := h
    simp only [List.cons.injEq] at he
    obtain ⟨rfl, _⟩ := he
    rw [List.all_cons, Bool.and_eq_true] at hf
    exact freeR_free h1 hf.1

def roRes (c : Sg) : Bool := (c.blks.all fun b => !b.own) && c.out.old.isEmpty && c.out.new.isEmpty && (c.out.regs.all fun x => freeR x.2)

theorem good1 (hs : NoSp T f) (hK : GoodK T K) (hT : T.fn f = some F) (hm : F.mode = 1) (hok : c.sg.ok = true) (hro : roRes c.sg = true) (hfn : ∀ N x, c.fn N x = fnS N K F nt c.sg x) : GoodC T f c := by
  intro N x y hy r H us hi
  rw [hfn] at hy
  simp only [roRes, Bool.and_eq_true, List.isEmpty_iff] at hro
  obtain ⟨⟨⟨r1, r2⟩, r3⟩, r4⟩ := hro
  obtain ⟨n0, u, H', q, h1, h2⟩ := body_out (cf := evF T) (callS := callK N K) (callK_sound hK) hok hy (hi.frz r1)
  refine ⟨n0 + 1, u, H, q, fun n hn => ?_, quiet_out h2 r2 r3⟩
  obtain ⟨m, rfl⟩ : ∃ m, n = m + 1 := ⟨n - 1, by omega⟩
  obtain ⟨d1, d2, d3, e1, e2, e3, e4⟩ := h2.parts
  rw [evF_body hs hT]
  unfold evT
  rw [hT]
  simp only [hm]
  rw [h1 m (by omega)]
  simp only [regs1 e2 r4, cond_true]

theorem good2 (hs : NoSp T f) (hK : GoodK T K) (hT : T.fn f = some F) (hm : F.mode = 2) (hok : c.sg.ok = true) (hro : roRes c.sg = true) (hb : c.sg.blks = []) (ha : c.sg.args.all flatR = true) (hfn : ∀ N x, c.fn N x = fnS N K F nt c.sg x) : GoodC T f c := by
  intro N x y hy r H us hi
  rw [hfn] at hy
  simp only [roRes, Bool.and_eq_true, List.isEmpty_iff] at hro
  obtain ⟨⟨⟨r1, r2⟩, r3⟩, r4⟩ := hro
  have hi2 : InOk r Heap.empty c.sg x us := by
    obtain ⟨da, db, g1, g2, g3⟩ := hi.parts
    refine ⟨⟨da, db, g1, g2, ?_⟩, hi.dm, hi.ap, fun x _ => wr_empty x⟩
    rw [hb] at g3 ⊢
    exact g3
  obtain ⟨n0, u, H', q, h1, h2⟩ := body_out (cf := evF T) (callS := callK N K) (callK_sound hK) hok hy hi2
  refine ⟨n0 + 1, u, H, q, fun n hn => ?_, quiet_out h2 r2 r3⟩
  obtain ⟨m, rfl⟩ : ∃ m, n = m + 1 := ⟨n - 1, by omega⟩
  obtain ⟨d1, d2, d3, e1, e2, e3, e4⟩ := h2.parts
  obtain ⟨da, db, g1, g2, g3⟩ := hi.parts
  rw [evF_body hs hT]
  unfold evT
  rw [hT]
  simp only [hm]
  rw [freeArgs g2 ha, cond_true, h1 m (by omega)]
  simp only [regs1 e2 r4, cond_true]

/-- a slice of its own comes back -/
def slRes (c : Sg) (size : Nat) : Bool := (c.blks.all fun b => !b.own) && c.out.old.isEmpty &&
  (match c.out.regs, c.out.new with
  | [(_, .sla k .yes)], [⟨true, .many t⟩] => k.beq c.blks.length && t.size.beq size
  | _, _ => false)

theorem flatMap_scalar {t : Ty} (xs : List t.den) : (xs.flatMap t.cells).all AV.scalar = true := by
  induction xs with
  | nil => rfl
  | cons x xs ih => rw [List.flatMap_cons, List.all_append, cells_scalar, ih]; rfl

theorem good3 (hs : NoSp T f) (hK : GoodK T K) (hT : T.fn f = some F) (hm : F.mode = 3) (hok : c.sg.ok = true) (hro : slRes c.sg F.size = true) (hfn : ∀ N x, c.fn N x = fnS N K F nt c.sg x) : GoodC T f c := by
  intro N x y hy r H us hi
  rw [hfn] at hy
  simp only [slRes, Bool.and_eq_true, List.isEmpty_iff] at hro
  obtain ⟨⟨r1, r2⟩, r3⟩ := hro
  obtain ⟨n0, u, H', q, h1, h2⟩ := body_out (cf := evF T) (callS := callK N K) (callK_sound hK) hok hy (hi.frz r1)
  obtain ⟨d1, d2, d3, e1, e2, e3, e4⟩ := h2.parts
  split at r3
  · rename_i k0 k t hregs hnew
    simp only [Bool.and_eq_true, Nat.beq_eq] at r3
    obtain ⟨rfl, hsz⟩ := r3
    rw [hregs] at e2
    rw [hnew] at e4
    rw [r2] at e3
    obtain ⟨d11, d12, u', us', q1, q2, q3, q4⟩ := e2
    simp only [List.cons.injEq] at q2
    obtain ⟨rfl, rfl⟩ := q2
    obtain ⟨q5, _⟩ := q4
    obtain ⟨q6, w, q7, q8⟩ := q3
    subst q5 q6
    rw [List.append_nil] at q1
    subst q1
    obtain ⟨d31, d32, w', p1, p2, p3, p4, p5⟩ := e4
    simp only [NewsOut] at p5
    subst p5
    rw [List.append_nil] at p1
    subst p1
    rw [q7] at p2
    obtain rfl := Option.some.inj p2
    obtain ⟨xs, p6, p7, p8, p9, p10⟩ := p3
    have hlen : c.sg.out.new.length = 1 := by rw [hnew]; rfl
    have key : ∀ (u2 : AV) (H2 : Heap) (w2 : W), newSl H F.size H' u = some (u2, H2) → VR (upd q c.sg.blks.length w2) (.sla c.sg.blks.length .yes) u2 → BR (upd q c.sg.blks.length w2) H2 w2 (.many t xs) → (w2.virt = false → H2.has w2.hb = true ∧ H2.wr w2.hb = true ∧ H.has w2.hb = false) →
        H.In H2 → (∀ x, H2.wr x = H.wr x) → (∀ x, H.has x = true → H2.get x = H.get x) → H2.log = H.log →
        ∃ n0 u H' q, (∀ n, n0 ≤ n → evF T n f us H = some (u, H')) ∧ OutOk r H c.sg y u H' q := by
      intro u2 H2 w2 k1 k2 k3 k4 k5 k6 k7 k8
      refine ⟨n0 + 1, u2, H2, upd q c.sg.blks.length w2, fun n hn => ?_, ⟨⟨[], [], d3, ?_, ?_, ?_, ?_⟩, fun x hx => by rw [r2] at hx; simp at hx, fun i j w w' hij hi hj => by omega, k5, k6, fun x hx _ => k7 x hx, ⟨[], by simpa using k8, fun x hx => by simp at hx⟩⟩⟩
      · obtain ⟨m, rfl⟩ : ∃ m, n = m + 1 := ⟨n - 1, by omega⟩
        rw [evF_body hs hT]
        unfold evT
        rw [hT]
        simp only [hm]
        rw [h1 m (by omega)]
        exact k1
      · rw [e1, e3]
      · rw [hregs]
        exact ⟨[], [], u2, [], rfl, rfl, ⟨rfl, k2⟩, rfl, rfl⟩
      · rw [r2]; rfl
      · rw [hnew]
        exact ⟨d3, [], w2, by simp, by simp [upd], ⟨xs, p6, k3⟩, fun hv => ⟨(k4 hv).1, (k4 hv).2.1, .inr (k4 hv).2.2⟩, rfl⟩
    rcases q8 with ⟨q8, rfl, q9⟩ | ⟨q8, cc, q9, rfl⟩
    · have hxs : xs = [] := isNil_of_len (by omega)
      subst hxs
      exact key .nilsl H w rfl ⟨w, by simp [upd], .inl ⟨q8, rfl, q9⟩⟩ ⟨p7, p8, p9, .inl ⟨q8, rfl⟩⟩ (fun hv => by rw [q8] at hv; simp at hv) (fun _ h => h) (fun _ => rfl) (fun _ _ => rfl) rfl
    · simp only [Ex.cp, CpR] at q9
      subst q9
      rcases p10 with ⟨p10, _⟩ | ⟨_, pre, post, p11, p12⟩
      · rw [q8] at p10; simp at p10
      · obtain ⟨g1, g2, g3⟩ := p4 q8
        have hb : H.has w.hb = false := by
          rcases g3 with g3 | g3
          · exact absurd g3 (no_mine r1 _)
          · simpa using g3
        have hload := load_all p11
        rw [p12, ← p8] at hload
        refine key (.sl H.nb 0 w.len none w.size) (H.push (xs.flatMap t.cells)) ⟨false, H.nb, 0, w.len, w.size⟩ ?_ ⟨⟨false, H.nb, 0, w.len, w.size⟩, by simp [upd], .inr ⟨rfl, none, rfl, rfl⟩⟩ ⟨p7, p8, p9, .inr ⟨rfl, [], [], by simp, rfl⟩⟩ (fun _ => ⟨has_push_nb H _, by rw [Heap.wr_push]; exact hi.rn _ (not_has_nb H), not_has_nb H⟩) (fun x hx => has_push _ hx) (fun _ => rfl) (fun x hx => by rw [Heap.get_push, if_neg (ne_nb hx)]) rfl
        unfold newSl
        simp only
        rw [hb, show w.size.beq F.size = true by rw [p8, hsz]; exact Nat.beq_refl _, Bool.not_false, Bool.and_self, cond_true, p7, ← hsz, ← p8, hload]
        simp only [flatMap_scalar, cond_true]
  · simp at r3

end
end Go.Sh

/- The words of the residuals: loops. No condition. -/

namespace Go.Sh
set_option linter.unusedVariables false
open Go

theorem fixN_ind {σ ρ : Type} {F : (σ → Option ρ) → σ → Option ρ} (inv : Nat → σ → Prop) (R : σ → Option ρ → Prop)
    (step : ∀ k s again, inv k s → (∀ k' s', k' < k → inv k' s' → R s' (again s')) → R s (F again s)) : ∀ n k s, k < n → inv k s → R s (fixN n F s)
  | 0, k, s, h, _ => by omega
  | n + 1, k, s, h, hi => step k s (fixN n F) hi fun k' s' hk hi' => fixN_ind inv R step n k' s' (by omega) hi'

theorem wrap64 {n : Int} (h1 : -9223372036854775808 ≤ n) (h2 : n ≤ 9223372036854775807) : IntKind.i64.wrap n = n := by
  have key : IntKind.i64.wrap n = if (9223372036854775808 : Int) ≤ n % 18446744073709551616 then n % 18446744073709551616 - 18446744073709551616 else n % 18446744073709551616 := by
    simp [IntKind.wrap, IntKind.bits, IntKind.signed]
  rw [key]
  split <;> omega

theorem chk_true {ρ : Type} {c : Bool} {r : Option ρ} (h : c = true) : chk c r = r := by rw [h]; rfl
theorem br_true {ρ : Type} {c : Bool} {a b : Option ρ} (h : c = true) : br c a b = a := by rw [h]; rfl
theorem br_false {ρ : Type} {c : Bool} {a b : Option ρ} (h : c = false) : br c a b = b := by rw [h]; rfl
@[simp] theorem br_t {ρ : Type} {a b : Option ρ} : br true a b = a := rfl
@[simp] theorem br_f {ρ : Type} {a b : Option ρ} : br false a b = b := rfl
@[simp] theorem chk_t {ρ : Type} {a : Option ρ} : chk true a = a := rfl
@[simp] theorem bindS_some {α ρ : Type} {x : α} {k : α → Option ρ} : bindS (some x) k = k x := rfl
theorem jp_eq {α ρ : Type} (k : α → Option ρ) (b : (α → Option ρ) → Option ρ) : jp k b = b k := rfl
theorem br_ite {ρ : Type} (c : Bool) (a b : Option ρ) : br c a b = if c then a else b := by cases c <;> rfl

/-- a search upward: the first place from k on, of n -/
def find1 (p : Nat → Bool) : Nat → Nat → Option Nat
  | 0, _ => none
  | m + 1, k => if p k then some k else find1 p m (k + 1)

theorem search_from {ρ : Type} {N n : Nat} {a b : Int} (hn : n < 9223372036854775807) (ha : a = n) (hb : b = n) (p : Int → Bool) (found : Int → Option ρ) (rest : Option ρ) (k : Nat) (hk : k ≤ n) (hN : n - k < N) :
    fixN N (fun again (i : Int) => br (decide (i < a)) (chk (decide (0 ≤ i) && decide (i < b)) (br (p i) (found i) (again (IntKind.i64.wrap (i + 1))))) rest) (k : Int) =
      match find1 (fun k => p k) (n - k) k with
      | some k => found k
      | none => rest := by
  subst ha hb
  have := fixN_ind (F := fun again (i : Int) => br (decide (i < (n : Int))) (chk (decide (0 ≤ i) && decide (i < (n : Int))) (br (p i) (found i) (again (IntKind.i64.wrap (i + 1))))) rest)
    (fun m s => m ≤ n ∧ s = ((n - m : Nat) : Int)) (fun s o => o = match find1 (fun k => p k) (n - s.toNat) s.toNat with | some k => found k | none => rest) ?_ N (n - k) (k : Int) hN ⟨by omega, by omega⟩
  · simpa using this
  · rintro m s again ⟨hm, rfl⟩ ih
    rcases Nat.eq_zero_or_pos m with h0 | h0
    · subst h0
      simp [find1]
    · have e1 : decide (((n - m : Nat) : Int) < (n : Int)) = true := decide_eq_true (by omega)
      have e2 : decide ((0 : Int) ≤ ((n - m : Nat) : Int)) = true := decide_eq_true (by omega)
      have e3 : n - (n - m) = (m - 1) + 1 := by omega
      have := ih (m - 1) (((n - m : Nat) : Int) + 1) (by omega) ⟨by omega, by omega⟩
      rw [br_true e1, chk_true (by rw [e2, e1]; rfl), wrap64 (by omega) (by omega), Int.toNat_natCast, e3, find1]
      cases hp : p ((n - m : Nat) : Int) with
      | true => simp
      | false =>
        simp only [br_f, Bool.false_eq_true, if_false]
        rw [this]
        have e4 : (((n - m : Nat) : Int) + 1).toNat = n - m + 1 := by omega
        rw [e4, show n - (n - m + 1) = m - 1 by omega]

theorem search_up {ρ : Type} {N n : Nat} {a b : Int} (hN : n < N) (hn : n < 9223372036854775807) (ha : a = n) (hb : b = n) (p : Int → Bool) (found : Int → Option ρ) (rest : Option ρ) :
    fixN N (fun again (i : Int) => br (decide (i < a)) (chk (decide (0 ≤ i) && decide (i < b)) (br (p i) (found i) (again (IntKind.i64.wrap (i + 1))))) rest) 0 =
      match find1 (fun k => p k) n 0 with
      | some k => found k
      | none => rest := by
  have := search_from (N := N) hn ha hb p found rest 0 (by omega) (by omega)
  simpa using this

theorem find1_some {p : Nat → Bool} : ∀ {m k j : Nat}, find1 p m k = some j → k ≤ j ∧ j < k + m ∧ p j = true ∧ ∀ i, k ≤ i → i < j → p i = false
  | 0, k, j, h => by simp [find1] at h
  | m + 1, k, j, h => by
    simp only [find1] at h
    split at h
    · rename_i hp
      obtain rfl := Option.some.inj h
      exact ⟨by omega, by omega, hp, fun i h1 h2 => by omega⟩
    · rename_i hp
      obtain ⟨h1, h2, h3, h4⟩ := find1_some h
      refine ⟨by omega, by omega, h3, fun i g1 g2 => ?_⟩
      rcases Nat.lt_or_ge k i with hlt | hge
      · exact h4 i (by omega) g2
      · obtain rfl : i = k := by omega
        simpa using hp

theorem find1_none {p : Nat → Bool} : ∀ {m k : Nat}, find1 p m k = none → ∀ i, k ≤ i → i < k + m → p i = false
  | 0, k, h, i, h1, h2 => by omega
  | m + 1, k, h, i, h1, h2 => by
    simp only [find1] at h
    split at h
    · simp at h
    · rename_i hp
      rcases Nat.lt_or_ge k i with hlt | hge
      · exact find1_none h i (by omega) (by omega)
      · obtain rfl : i = k := by omega
        simpa using hp

theorem find1_ext {p q : Nat → Bool} : ∀ {m k : Nat}, (∀ i, k ≤ i → i < k + m → p i = q i) → find1 p m k = find1 q m k
  | 0, _, _ => rfl
  | m + 1, k, h => by
    simp only [find1]
    rw [h k (by omega) (by omega), find1_ext (fun i h1 h2 => h i (by omega) (by omega))]

theorem find1_list {α : Type} (q : α → Bool) (d : α) (l : List α) : ∀ (m k : Nat), k + m = l.length → find1 (fun i => q (l.getD i d)) m k = ((l.drop k).findIdx? q).map (· + k)
  | 0, k, h => by
    rw [List.drop_eq_nil_of_le (by omega)]
    rfl
  | m + 1, k, h => by
    have hk : k < l.length := by omega
    rw [List.drop_eq_getElem_cons hk, List.findIdx?_cons]
    simp only [find1]
    have e : l.getD k d = l[k] := by rw [List.getD_eq_getElem?_getD, List.getElem?_eq_getElem hk, Option.getD_some]
    simp only [e]
    split
    · simp
    · rw [find1_list q d l m (k + 1) (by omega)]
      cases (l.drop (k + 1)).findIdx? q with
      | none => rfl
      | some j => simp; omega

/-- a search through a list -/
theorem search_list {ρ α : Type} {N : Nat} {a b : Int} (l : List α) (q : α → Bool) (d : α) (hN : l.length < N) (hn : l.length < 9223372036854775807) (ha : a = l.length) (hb : b = l.length) {p : Int → Bool} (hp : ∀ i : Int, p i = q (l.getD i.toNat d)) (found : Int → Option ρ) (rest : Option ρ) :
    fixN N (fun again (i : Int) => br (decide (i < a)) (chk (decide (0 ≤ i) && decide (i < b)) (br (p i) (found i) (again (IntKind.i64.wrap (i + 1))))) rest) 0 =
      match l.findIdx? q with
      | some k => found k
      | none => rest := by
  rw [search_up (n := l.length) hN hn ha hb]
  have : find1 (fun k => p k) l.length 0 = l.findIdx? q := by
    rw [find1_ext (q := fun i => q (l.getD i d)) (fun i _ _ => by simp only [hp, Int.toNat_natCast]), find1_list q d l l.length 0 (by omega), List.drop_zero]
    cases l.findIdx? q with
    | none => rfl
    | some j => rfl
  rw [this]

end Go.Sh

/- Laws: what the laws' arguments are in the shallow reading; and the evaluator's answer by the contract. No condition. -/

namespace Go.Sh
set_option linter.unusedVariables false
set_option linter.unusedSimpArgs false
open Go Go.Ev

def Ty.lks : Ty → List LK
  | .int k => [.int k]
  | .flt k => [.float k]
  | .bool => [.bool]
  | .str => [.str]
  | .err => [.bool]
  | .unit => []
  | .one a => a.lks
  | .pair a b => a.lks ++ b.lks
  | .arr n t => (List.replicate n t.lks).flatten

def Ty.wf : (t : Ty) → t.den → Prop
  | .int k, n => (Lit.int k n).wf = true
  | .flt k, n => (Lit.float k n).wf = true
  | .bool, _ => True
  | .str, s => s.length ≤ maxLen
  | .err, _ => True
  | .unit, _ => True
  | .one a, x => a.wf x
  | .pair a b, x => a.wf x.1 ∧ b.wf x.2
  | .arr n t, xs => xs.length = n ∧ ∀ x ∈ xs, t.wf x

/-- no error inside -/
def Ty.rows : Ty → Bool
  | .err => false
  | .one a => a.rows
  | .pair a b => a.rows && b.rows
  | .arr _ t => t.rows
  | _ => true

theorem Ty.lks_length : ∀ t : Ty, t.lks.length = t.size
  | .int _ => rfl
  | .flt _ => rfl
  | .bool => rfl
  | .str => rfl
  | .err => rfl
  | .unit => rfl
  | .one a => a.lks_length
  | .pair a b => by simp [Ty.lks, Ty.size, a.lks_length, b.lks_length]
  | .arr n t => by simp [Ty.lks, Ty.size, t.lks_length, List.length_flatten]

theorem row_append : ∀ {a b : List LK} {l : List AV}, RowIs (a ++ b) l → ∃ x y, l = x ++ y ∧ RowIs a x ∧ RowIs b y
  | [], b, l, h => ⟨[], l, rfl, rfl, h⟩
  | k :: a, b, l, h => by
    obtain ⟨x, xs, rfl, h1, h2⟩ := h
    obtain ⟨y, z, rfl, h3, h4⟩ := row_append h2
    exact ⟨x :: y, z, rfl, ⟨x, y, rfl, h1, h3⟩, h4⟩

theorem row_n {t : Ty} (ih : ∀ l, RowIs t.lks l → ∃ x, l = t.cells x ∧ t.wf x) : ∀ (n : Nat) (l : List AV), RowIs (List.replicate n t.lks).flatten l →
    ∃ xs : List t.den, xs.length = n ∧ l = xs.flatMap t.cells ∧ ∀ x ∈ xs, t.wf x
  | 0, l, h => by
    simp only [List.replicate, List.flatten_nil, RowIs] at h
    subst h
    exact ⟨[], rfl, rfl, fun x hx => by simp at hx⟩
  | n + 1, l, h => by
    simp only [List.replicate, List.flatten_cons] at h
    obtain ⟨a, b, rfl, h1, h2⟩ := row_append h
    obtain ⟨x, rfl, hx⟩ := ih a h1
    obtain ⟨xs, h3, rfl, h4⟩ := row_n ih n b h2
    refine ⟨x :: xs, by simp [h3], rfl, fun y hy => ?_⟩
    rcases List.mem_cons.1 hy with rfl | hy
    · exact hx
    · exact h4 y hy

theorem cellsN_flat {α : Type} (f : α → List AV) (d : α) : ∀ (xs : List α), cellsN f d xs.length xs = xs.flatMap f
  | [] => rfl
  | x :: xs => by simp only [List.length_cons, cellsN, cellsN_flat f d xs, List.flatMap_cons]

theorem row_tyR : ∀ (t : Ty) (l : List AV), t.rows = true → RowIs t.lks l → ∃ x, l = t.cells x ∧ t.wf x
  | .int k, l, _, h => by
    obtain ⟨x, xs, rfl, ⟨n, rfl, hn⟩, h2⟩ := h
    simp only [RowIs] at h2
    subst h2
    exact ⟨n, rfl, hn⟩
  | .flt k, l, _, h => by
    obtain ⟨x, xs, rfl, ⟨n, rfl, hn⟩, h2⟩ := h
    simp only [RowIs] at h2
    subst h2
    exact ⟨n, rfl, hn⟩
  | .bool, l, _, h => by
    obtain ⟨x, xs, rfl, ⟨n, rfl⟩, h2⟩ := h
    simp only [RowIs] at h2
    subst h2
    exact ⟨n, rfl, trivial⟩
  | .str, l, _, h => by
    obtain ⟨x, xs, rfl, ⟨n, rfl, hn⟩, h2⟩ := h
    simp only [RowIs] at h2
    subst h2
    exact ⟨n, rfl, hn⟩
  | .unit, l, _, h => by
    simp only [Ty.lks, RowIs] at h
    subst h
    exact ⟨(), rfl, trivial⟩
  | .err, l, h0, _ => by simp [Ty.rows] at h0
  | .one a, l, h0, h => row_tyR a l h0 h
  | .pair a b, l, h0, h => by
    obtain ⟨x, y, rfl, h1, h2⟩ := row_append h
    have h0' : (a.rows && b.rows) = true := h0
    rw [Bool.and_eq_true] at h0'
    obtain ⟨u, rfl, hu⟩ := row_tyR a x h0'.1 h1
    obtain ⟨v, rfl, hv⟩ := row_tyR b y h0'.2 h2
    exact ⟨(u, v), rfl, hu, hv⟩
  | .arr n t, l, h0, h => by
    obtain ⟨xs, h1, rfl, h2⟩ := row_n (fun l => row_tyR t l h0) n l h
    refine ⟨xs, ?_, h1, h2⟩
    subst h1
    exact (cellsN_flat t.cells t.dflt xs).symm

theorem row_ty (t : Ty) (l : List AV) (h : RowIs t.lks l) (h0 : t.rows = true := by decide) : ∃ x, l = t.cells x ∧ t.wf x := row_tyR t l h0 h

/-! ### the arguments, one behind the other -/
theorem DRs.append {r : RM} : ∀ {l l' : List RSh} {ds ds' : List Dyn} {us us' : List AV}, DRs r l ds us → DRs r l' ds' us' → DRs r (l ++ l') (ds ++ ds') (us ++ us')
  | [], l', ds, ds', us, us', ⟨h1, h2⟩, h => by subst h1; subst h2; exact h
  | x :: l, l', ds, ds', us, us', ⟨d1, d2, u, us2, h1, h2, h3, h4⟩, h => by
    subst h1; subst h2
    exact ⟨d1, d2 ++ ds', u, us2 ++ us', by simp, rfl, h3, DRs.append h4 h⟩

structure LIn (H : Heap) (r : RM) (args : List RSh) (da : List Dyn) (us : List AV) (blks : List Ty) (db : List Dyn) : Prop where
  drs : DRs r args da us
  blk : BlksIn r H 0 (blks.map fun t => ⟨false, .many t⟩) db
  dm : ∀ k w, r k = some w → k < blks.length
  rn : ∀ x, H.has x = false → H.wr x = true

theorem LIn.empty : LIn Heap.empty (fun _ => none) [] [] [] [] [] :=
  ⟨⟨rfl, rfl⟩, rfl, fun k w h => by simp at h, fun x _ => wr_empty x⟩

theorem LIn.val {H : Heap} {r : RM} {args : List RSh} {da : List Dyn} {us : List AV} {blks : List Ty} {db : List Dyn} (h : LIn H r args da us blks db) (t : Ty) (x : t.den) :
    LIn H r (args ++ [.ty t]) (da ++ [⟨.ty t, x⟩]) (us ++ [tyAV t x]) blks db :=
  ⟨DRs.append h.drs ⟨[⟨.ty t, x⟩], [], _, [], rfl, rfl, ⟨x, rfl, rfl⟩, rfl, rfl⟩, h.blk, h.dm, h.rn⟩

theorem blks_mono {r r' : RM} {H H' : Heap} (he : Ext r r') (hg : ∀ x, H.has x = true → H'.get x = H.get x) (hn : H.In H') : ∀ {l : List Ty} {k : Nat} {ds : List Dyn},
    BlksIn r H k (l.map fun t => ⟨false, .many t⟩) ds → BlksIn r' H' k (l.map fun t => ⟨false, .many t⟩) ds
  | [], k, ds, h => h
  | t :: l, k, ds, h => by
    obtain ⟨d1, d2, w, h1, h2, ⟨xs, h3, h4⟩, h5, h6⟩ := h
    exact ⟨d1, d2, w, h1, he _ _ h2, ⟨xs, h3, BR.mono he (fun hv => hg _ (h5 hv).1) h4⟩, fun hv => ⟨hn _ (h5 hv).1, fun hf => by simp at hf⟩, blks_mono he hg hn h6⟩

theorem blks_append {r : RM} {H : Heap} {t : Ty} {d : Dyn} {w : W} (hw : DB r H w (.many t) [d]) (hv : w.virt = false → H.has w.hb = true) : ∀ {l : List Ty} {k : Nat} {ds : List Dyn}, r (k + l.length) = some w →
    BlksIn r H k (l.map fun t => ⟨false, .many t⟩) ds → BlksIn r H k ((l ++ [t]).map fun t => ⟨false, .many t⟩) (ds ++ [d])
  | [], k, ds, hr, h => by
    simp only [List.map_nil, BlksIn] at h
    subst h
    exact ⟨[d], [], w, rfl, hr, hw, fun h => ⟨hv h, fun hf => by simp at hf⟩, rfl⟩
  | s :: l, k, ds, hr, h => by
    obtain ⟨d1, d2, w', h1, h2, h3, h5, h6⟩ := h
    refine ⟨d1, d2 ++ [d], w', by rw [h1, List.append_assoc], h2, h3, h5, blks_append hw hv ?_ h6⟩
    rw [← hr]; simp only [List.length_cons]; congr 1; omega

theorem VR.drs_mono {r r' : RM} (he : Ext r r') {l : List RSh} {ds : List Dyn} {us : List AV} (h : DRs r l ds us) : DRs r' l ds us :=
  DRs.on (fun k _ w hk => he k w hk) h

theorem LIn.sl {H : Heap} {r : RM} {args : List RSh} {da : List Dyn} {us : List AV} {blks : List Ty} {db : List Dyn} (h : LIn H r args da us blks db) {t : Ty} (ht : 0 < t.size) {v : AV} {H' : Heap} {xs : List AV} {len : Nat}
    (hs : SlIn t.lks H v H' xs len) (h0 : t.rows = true := by decide) : ∃ r' ys, ys.length = len ∧ (∀ x ∈ ys, t.wf x) ∧ LIn H' r' (args ++ [.sla blks.length .any]) da (us ++ [v]) (blks ++ [t]) (db ++ [⟨.lst t, ys⟩]) := by
  have hnone : r blks.length = none := by
    cases hr : r blks.length with
    | none => rfl
    | some w => exact absurd (h.dm _ _ hr) (Nat.lt_irrefl _)
  have hext : ∀ w, Ext r (upd r blks.length w) := by
    intro w k w' hk
    unfold upd
    split
    · rename_i he; subst he; rw [hnone] at hk; simp at hk
    · exact hk
  have hdm : ∀ w, ∀ k w', upd r blks.length w k = some w' → k < (blks ++ [t]).length := by
    intro w k w' hk
    unfold upd at hk
    simp only [List.length_append, List.length_singleton]
    split at hk
    · omega
    · have := h.dm _ _ hk; omega
  have hself : ∀ w, upd r blks.length w blks.length = some w := fun w => by unfold upd; simp
  rcases hs with ⟨rfl, rfl, rfl, rfl⟩ | ⟨rfl, rfl, hrow⟩
  · refine ⟨upd r blks.length ⟨true, 0, 0, 0, t.size⟩, [], rfl, fun x hx => by simp at hx, ?_, ?_, hdm _, h.rn⟩
    · have := DRs.append (VR.drs_mono (hext ⟨true, 0, 0, 0, t.size⟩) h.drs) (l' := [.sla blks.length .any]) (ds' := []) (us' := [.nilsl]) ⟨[], [], _, [], rfl, rfl, ⟨rfl, ⟨true, 0, 0, 0, t.size⟩, hself _, .inl ⟨rfl, rfl, rfl⟩⟩, rfl, rfl⟩
      simpa using this
    · refine blks_append (w := ⟨true, 0, 0, 0, t.size⟩) ⟨[], rfl, rfl, rfl, ht, .inl ⟨rfl, rfl⟩⟩ (fun hv => by simp at hv) (by rw [Nat.zero_add]; exact hself _) (blks_mono (hext _) (fun _ _ => rfl) (fun _ h => h) h.blk)
  · obtain ⟨ys, h1, rfl, h2⟩ := row_n (fun l => row_tyR t l h0) len xs hrow
    have hget : ∀ x, H.has x = true → (H.pushRo (ys.flatMap t.cells)).get x = H.get x := by
      intro x hx
      show (H.tr.set (H.nb + 1) H.nb _).get x = _
      rw [Tr.get_set _ _ _ _ _ (by omega), if_neg (ne_nb hx)]
      rfl
    have hnew : (H.pushRo (ys.flatMap t.cells)).get H.nb = some (ys.flatMap t.cells) := by
      show (H.tr.set (H.nb + 1) H.nb _).get H.nb = _
      rw [Tr.get_set _ _ _ _ _ (by omega), if_pos rfl]
    refine ⟨upd r blks.length ⟨false, H.nb, 0, len, t.size⟩, ys, h1, h2, ?_, ?_, hdm _, fun x hx => by rw [show (H.pushRo (ys.flatMap t.cells)).wr x = !((H.push (ys.flatMap t.cells)).has x) from wr_frz _ x]; rw [show (H.push (ys.flatMap t.cells)).has x = false from hx]; rfl⟩
    · have := DRs.append (VR.drs_mono (hext ⟨false, H.nb, 0, len, t.size⟩) h.drs) (l' := [.sla blks.length .any]) (ds' := []) (us' := [.sl H.nb 0 len none t.lks.length]) ⟨[], [], _, [], rfl, rfl, ⟨rfl, ⟨false, H.nb, 0, len, t.size⟩, hself _, .inr ⟨rfl, none, trivial, by rw [Ty.lks_length]⟩⟩, rfl, rfl⟩
      simpa using this
    · exact blks_append (w := ⟨false, H.nb, 0, len, t.size⟩) ⟨ys, rfl, h1.symm, rfl, ht, .inr ⟨rfl, [], [], by simp only [List.nil_append, List.append_nil]; exact hnew, rfl⟩⟩ (H := H.pushRo (ys.flatMap t.cells)) (fun _ => has_push_nb H (ys.flatMap t.cells)) (by rw [Nat.zero_add]; exact hself _) (blks_mono (hext _) hget (fun x hx => has_push (ys.flatMap t.cells) hx) h.blk)

/-- the evaluator says what the contract's function says -/
theorem law_ev {T : Tab} {f : Nat} {c : Ctr} (hg : GoodC T f c) {args : List RSh} {blks : List Ty}
    (hc : c.sg = ⟨args, blks.map fun t => ⟨false, .many t⟩, ⟨[(0, .ty .bool)], [], [], []⟩⟩) {N : Nat} {x : c.sg.inp} {y : c.sg.res} (hy : c.fn N x = some y) {H : Heap} {us : List AV} {da db : List Dyn} {r : RM} (hin : LIn H r args da us blks db)
    (hx : ofHL _ x = da ++ db) (hb : ofHL _ y = [⟨.ty .bool, true⟩]) : ∃ n H', evF T n f us H = some (.bool true, H') := by
  obtain ⟨n0, u, H', q, h1, h2⟩ := hg N x y hy r H us ⟨⟨da, db, hx, by rw [hc]; exact hin.drs, by rw [hc]; exact hin.blk⟩, fun k w hk => by rw [hc]; simpa using hin.dm k w hk, fun i j bi bj wi wj _ hi hj ho => by
    rw [hc] at hi hj
    simp only [List.getElem?_map] at hi hj
    obtain ⟨a, _, ha⟩ := Option.map_eq_some_iff.1 hi
    obtain ⟨b, _, hb⟩ := Option.map_eq_some_iff.1 hj
    subst ha; subst hb
    simp at ho, hin.rn⟩
  obtain ⟨⟨d1, d2, d3, h3, h4, h5, h6⟩, -, -, -, -, -, -⟩ := h2
  rw [hc] at h4 h5 h6
  simp only [OldsOut, NewsOut] at h5 h6
  subst h5; subst h6
  obtain ⟨e1, e2, u', us', h7, h8, ⟨z, h9, h10⟩, h11, h12⟩ := h4
  subst h11; subst h9; subst h12
  rw [hb, h7] at h3
  simp only [List.append_nil, List.cons.injEq, and_true, Dyn.mk.injEq, heq_eq_eq, true_and] at h3
  simp only [List.cons.injEq, and_true] at h8
  subst h8; subst h10
  refine ⟨n0, H', ?_⟩
  rw [h1 n0 (Nat.le_refl _), ← h3]
  rfl
theorem law_ev2 {T : Tab} {f : Nat} {sg : Sg} {fn : Nat → sg.inp → Option sg.res} (hg : GoodC T f ⟨sg, fn⟩) {args : List RSh} {blks : List Ty}
    (hc : sg = ⟨args, blks.map fun t => ⟨false, .many t⟩, ⟨[(0, .ty .bool)], [], [], []⟩⟩) {N : Nat} {x : sg.inp} {y : sg.res} (hy : fn N x = some y) {H : Heap} {us : List AV} {da db : List Dyn} {r : RM} (hin : LIn H r args da us (blks) db)
    (hx : ofHL _ x = da ++ db) (hb : ofHL _ y = [⟨.ty .bool, true⟩]) : ∃ n H', evF T n f us H = some (.bool true, H') := law_ev hg hc hy hin hx hb

/-- a row of nothings -/
def zero1 : LK → Value
  | .bool => .bool false
  | .int k => .int k 0
  | .float k => .float k 0
  | .str => .string ⟨#[]⟩
def zeroOf (l : List LK) : List Value := l.map zero1
end Go.Sh

/- A string that is handed in. No condition. -/

namespace Go.Ev
open Go
variable {H : Type} {enc : TypeId × Value → H} {P : Program} {w : World} {spare : Nat → Bool} {held : Bool} {base : Nat}

theorem imp_str {r : Reach} {b0 : Nat} {t : TypeId} {v : Value} {d : DataW H} {p : List MemPlace} (ht : P.underlying t = some .string) (hval : Value.okWide P w r b0 t v) (h : DataW.Trod enc P w base spare held t v d p) :
    ∃ s : List UInt8, s.length ≤ maxLen ∧ ∀ j, VR j (.str s) v := by
  obtain ⟨s, rfl, _, _, hs⟩ := Go.ChangeMaps.open_string ht hval h
  exact ⟨s.data.toList, by rw [Array.length_toList]; exact hs, fun j => rfl⟩
end Go.Ev

/- What closed calls come to, kept: a table that knows them; the contract of a function without arguments that answers true. No condition. -/

namespace Go.Ev
open Go

/-- calls that are known -/
def spM (m : Nat → List AV → Option AV) (sp : Nat → List AV → Option AV) (f : Nat) (args : List AV) : Option AV :=
  match m f args with
  | some v => some v
  | none => sp f args

def Tab.knows (T : Tab) (m : Nat → List AV → Option AV) : Tab := { fn := T.fn, sp := spM m T.sp, hx := T.hx }

theorem GoodTab.knows [Home] {P : Program} {md : Nat → Nat} {T : Tab} (hG : GoodTab P md T) (hmix : P.follows .mixedOrders = true) {m : Nat → List AV → Option AV}
    (hm : ∀ f args v, m f args = some v → md f = 2 ∧ (∃ F, T.fn f = some F) ∧ ∃ n H', evF T n f args Heap.empty = some (v, H')) : GoodTab P md (T.knows m) where
  fn := hG.fn
  sp := fun f args v h => by
    unfold Tab.knows spM at h
    simp only at h
    split at h
    · rename_i u hu
      obtain rfl := Option.some.inj h
      obtain ⟨h2, ⟨F, hF⟩, n, H', hev⟩ := hm f args u hu
      obtain ⟨hc, hcls, _⟩ := evF_sound hG hmix n
      have hev2 := fun H => ((hcls f args _ u H' hev).1 h2).2 H
      obtain ⟨fn, code, hf, hb, hn, _, _⟩ := (hG.fn f F hF).2
      exact ⟨fun l w => run_callFunc hf hb hn _ _, fun j H w l hw hl => (hc f args H u H (hev2 H) j w l hw hl).2⟩
    · exact hG.sp f args v h
  hx := hG.hx

end Go.Ev

namespace Go.Sh
open Go Go.Ev
set_option linter.unusedVariables false
set_option linter.unusedSimpArgs false

/-- the signature of a function without arguments that answers a bool -/
def sgB : Sg := ⟨[], [], ⟨[(0, .ty .bool)], [], [], []⟩⟩

theorem good_true {T : Tab} {f : Nat} (h : T.sp f [] = some (.bool true)) : GoodC T f ⟨sgB, fun _ _ => some true⟩ := by
  intro N x y hy r H us hi
  have hy' : (true : Bool) = y := Option.some.inj hy
  subst hy'
  obtain ⟨da, db, h1, h2, h3⟩ := hi.parts
  obtain ⟨rfl, rfl⟩ := h2
  refine ⟨1, .bool true, H, r, fun n hn => ?_, ⟨⟨[⟨.ty .bool, true⟩], [], [], rfl, ⟨[⟨.ty .bool, true⟩], [], _, [], rfl, rfl, ⟨true, rfl, rfl⟩, rfl, rfl⟩, rfl, rfl⟩, ?_, ?_, fun _ h => h, fun _ => rfl, fun _ _ _ => rfl, ⟨[], rfl, fun x hx => by simp at hx⟩⟩⟩
  · obtain ⟨k, rfl⟩ : ∃ k, n = k + 1 := ⟨n - 1, by omega⟩
    simp only [evF, h]
  · intro x hx
    simp [sgB] at hx
  · intro i j w w' _ hi
    simp [sgB] at hi
end Go.Sh

/- Contracts in short: the table's entries and the notes need no text of their own. No condition. -/

namespace Go.Sh
open Go Go.Ev
set_option linter.unusedVariables false

abbrev iI : Ty := .int .i64
abbrev iU : Ty := .int .u64
abbrev tI : RSh := .ty (.int .i64)
abbrev tU : RSh := .ty (.int .u64)
abbrev tB : RSh := .ty .bool
abbrev tS : RSh := .ty .str
/-- a list's entry by its number -/
def lkp {α : Type} : List (Nat × α) → Nat → Option α
  | [], _ => none
  | (k, x) :: l, n => bif n.beq k then some x else lkp l n

/-- the table's entry -/
def outF (T : Tab) (f : Nat) : AFunc := match T.fn f with | some F => F | none => ⟨0, 0, [], .skip⟩
/-- is a function in the table, of a mode? -/
def inT (T : Tab) (f m : Nat) : Bool := match T.fn f with | some F => F.mode.beq m | none => false

theorem inT_of {T : Tab} {f m : Nat} (h : inT T f m = true) : T.fn f = some (outF T f) ∧ (outF T f).mode = m := by
  unfold inT at h
  unfold outF
  split at h
  · rename_i F e
    rw [e]
    exact ⟨rfl, Nat.eq_of_beq_eq_true h⟩
  · simp at h

noncomputable section
/-- a table of contracts with one more -/
def kc (n : Nat) (c : Ctr) (K : CTab) : CTab := fun f svs => bif f.beq n then some c else K f svs
/-- the same, for some arguments -/
def kp (n : Nat) (p : List SV → Bool) (c : Ctr) (K : CTab) : CTab := fun f svs => bif f.beq n && p svs then some c else K f svs
/-- a function's reading -/
def fnx (T : Tab) (K : CTab) (f : Nat) (nt : Note) (sg : Sg) (N : Nat) (x : sg.inp) : Option sg.res := fnS N K (outF T f) nt sg x
end

variable {T : Tab} {K : CTab} {f n : Nat} {c : Ctr} {nt : Note} {sg : Sg}

theorem gk_kc (g : GoodC T n c) (ok : c.sg.ok = true) (k : GoodK T K) : GoodK T (kc n c K) := by
  intro f svs d h
  unfold kc at h
  cases hf : f.beq n with
  | false => rw [hf] at h; exact k f svs d h
  | true =>
    obtain rfl := Nat.eq_of_beq_eq_true hf
    rw [hf, cond_true] at h
    obtain rfl := Option.some.inj h
    exact ⟨g, ok⟩

theorem gk_kp {p : List SV → Bool} (g : GoodC T n c) (ok : c.sg.ok = true) (k : GoodK T K) : GoodK T (kp n p c K) := by
  intro f svs d h
  unfold kp at h
  cases hf : (f.beq n && p svs) with
  | false => rw [hf] at h; exact k f svs d h
  | true =>
    rw [hf, cond_true] at h
    rw [Bool.and_eq_true] at hf
    obtain rfl := Nat.eq_of_beq_eq_true hf.1
    obtain rfl := Option.some.inj h
    exact ⟨g, ok⟩

theorem mkT (h : T.sp f [] = some (.bool true)) (k : GoodK T K) : GoodC T f ⟨sgB, fun _ _ => some true⟩ ∧ GoodK T (kc f ⟨sgB, fun _ _ => some true⟩ K) :=
  ⟨good_true h, gk_kc (good_true h) (by decide) k⟩

theorem mc0 (hs : NoSp T f) (hK : GoodK T K) (h : (inT T f 0 && sg.ok) = true) : GoodC T f ⟨sg, fnx T K f nt sg⟩ := by
  rw [Bool.and_eq_true] at h
  obtain ⟨h1, h2⟩ := inT_of h.1
  exact good0 hs hK h1 h2 h.2 (fun _ _ => rfl)
theorem mc1 (hs : NoSp T f) (hK : GoodK T K) (h : (inT T f 1 && (sg.ok && roRes sg)) = true) : GoodC T f ⟨sg, fnx T K f nt sg⟩ := by
  simp only [Bool.and_eq_true] at h
  obtain ⟨h1, h2⟩ := inT_of h.1
  exact good1 hs hK h1 h2 h.2.1 h.2.2 (fun _ _ => rfl)
theorem mc2 (hs : NoSp T f) (hK : GoodK T K) (h : (inT T f 2 && (sg.ok && (roRes sg && (sg.blks.isEmpty && sg.args.all flatR)))) = true) : GoodC T f ⟨sg, fnx T K f nt sg⟩ := by
  simp only [Bool.and_eq_true] at h
  obtain ⟨h1, h2⟩ := inT_of h.1
  exact good2 hs hK h1 h2 h.2.1 h.2.2.1 (by simpa using h.2.2.2.1) h.2.2.2.2 (fun _ _ => rfl)
theorem mc3 (hs : NoSp T f) (hK : GoodK T K) (h : (inT T f 3 && (sg.ok && slRes sg (outF T f).size)) = true) : GoodC T f ⟨sg, fnx T K f nt sg⟩ := by
  simp only [Bool.and_eq_true] at h
  obtain ⟨h1, h2⟩ := inT_of h.1
  exact good3 hs hK h1 h2 h.2.1 h.2.2 (fun _ _ => rfl)

theorem mk0 (hs : NoSp T f) (hK : GoodK T K) (h : (inT T f 0 && sg.ok) = true) : GoodC T f ⟨sg, fnx T K f nt sg⟩ ∧ GoodK T (kc f ⟨sg, fnx T K f nt sg⟩ K) :=
  ⟨mc0 hs hK h, gk_kc (mc0 hs hK h) (by simp only [Bool.and_eq_true] at h; exact h.2) hK⟩
theorem mk1 (hs : NoSp T f) (hK : GoodK T K) (h : (inT T f 1 && (sg.ok && roRes sg)) = true) : GoodC T f ⟨sg, fnx T K f nt sg⟩ ∧ GoodK T (kc f ⟨sg, fnx T K f nt sg⟩ K) :=
  ⟨mc1 hs hK h, gk_kc (mc1 hs hK h) (by simp only [Bool.and_eq_true] at h; exact h.2.1) hK⟩
theorem mk2 (hs : NoSp T f) (hK : GoodK T K) (h : (inT T f 2 && (sg.ok && (roRes sg && (sg.blks.isEmpty && sg.args.all flatR)))) = true) : GoodC T f ⟨sg, fnx T K f nt sg⟩ ∧ GoodK T (kc f ⟨sg, fnx T K f nt sg⟩ K) :=
  ⟨mc2 hs hK h, gk_kc (mc2 hs hK h) (by simp only [Bool.and_eq_true] at h; exact h.2.1) hK⟩
theorem mk3 (hs : NoSp T f) (hK : GoodK T K) (h : (inT T f 3 && (sg.ok && slRes sg (outF T f).size)) = true) : GoodC T f ⟨sg, fnx T K f nt sg⟩ ∧ GoodK T (kc f ⟨sg, fnx T K f nt sg⟩ K) :=
  ⟨mc3 hs hK h, gk_kc (mc3 hs hK h) (by simp only [Bool.and_eq_true] at h; exact h.2.1) hK⟩
theorem kk_kp {p : List SV → Bool} (hK : GoodK T K) (h : GoodC T f c ∧ GoodK T (kc f c K)) (ok : c.sg.ok = true) : GoodC T f c ∧ GoodK T (kp f p c K) := ⟨h.1, gk_kp h.1 ok hK⟩
end Go.Sh

/- Contracts of functions of which the table says what they answer: Go's strconv and strings. No condition. -/

namespace Go.Sh
open Go Go.Ev
set_option linter.unusedVariables false
set_option linter.unusedSimpArgs false

/-- a plain value's reading -/
def avD : Dyn → AV
  | ⟨.ty t, x⟩ => tyAV t x
  | _ => .tup []

theorem drs_flat {r : RM} : ∀ {ts : List Ty} {ds : List Dyn} {us : List AV}, DRs r (ts.map RSh.ty) ds us → us = ds.map avD
  | [], ds, us, h => by obtain ⟨rfl, rfl⟩ := h; rfl
  | t :: ts, ds, us, h => by
    obtain ⟨d1, d2, u, us', rfl, rfl, ⟨x, rfl, rfl⟩, h2⟩ := h
    rw [drs_flat h2]; rfl

section
variable {T : Tab} {f : Nat} {K : CTab}

/-- a function that the table knows, of plain arguments -/
theorem good_flat {sg : Sg} {fn : Nat → sg.inp → Option sg.res} (hb : sg.blks = []) (ho : sg.out.old = []) (hn : sg.out.new = [])
    (h : ∀ N x y, fn N x = some y → ∀ (r : RM) us, DRs r sg.args (ofHL _ x) us → ∃ u, T.sp f us = some u ∧ DRs r (sg.out.regs.map (·.2)) (ofHL _ y) [u]) : GoodC T f ⟨sg, fn⟩ := by
  intro N x y hy r H us hi
  obtain ⟨da, db, h1, h2, h3⟩ := hi.parts
  have e : db = [] := by
    have h3' := h3
    simp only [hb] at h3'
    exact h3'
  subst e
  rw [List.append_nil] at h1
  obtain ⟨u, hu, hr⟩ := h N x y hy r us (by rw [h1]; exact h2)
  refine ⟨1, u, H, r, fun n hn => ?_, ⟨⟨ofHL _ y, [], [], by simp, hr, ?_, ?_⟩, fun x hx => ?_, fun i j w w' _ hi => ?_, fun _ h => h, fun _ => rfl, fun _ _ _ => rfl, ⟨[], rfl, fun x hx => by simp at hx⟩⟩⟩
  · obtain ⟨k, rfl⟩ : ∃ k, n = k + 1 := ⟨n - 1, by omega⟩
    simp only [evF, hu]
  · show OldsOut _ _ _ sg.out.old _
    rw [ho]; rfl
  · show NewsOut _ _ _ _ _ sg.out.new _
    rw [hn]; rfl
  · simp only [ho] at hx; simp at hx
  · simp only [hn] at hi; simp at hi

abbrev sg1 (l : List Ty) (t : Ty) : Sg := ⟨l.map RSh.ty, [], ⟨[(0, .ty t)], [], [], []⟩⟩
abbrev sg2 (l : List Ty) (t t' : Ty) : Sg := ⟨l.map RSh.ty, [], ⟨[(0, .tup [.ty t, .ty t'])], [], [], []⟩⟩

theorem drs_one {r : RM} {t : Ty} (x : t.den) : DRs r [.ty t] [⟨.ty t, x⟩] [tyAV t x] := ⟨[⟨.ty t, x⟩], [], _, [], rfl, rfl, ⟨x, rfl, rfl⟩, rfl, rfl⟩

/-- strconv.Itoa -/
noncomputable def itoaS (_ : Nat) (n : Int) : Option (List UInt8) := chk (i64B n) (some (itoaF n))
theorem good_itoa (h : ∀ n, i64B n = true → T.sp f [.int .i64 n] = some (.str (itoaF n))) : GoodC T f ⟨sg1 [iI] .str, itoaS⟩ := by
  refine good_flat rfl rfl rfl fun N x y hy r us hd => ?_
  obtain ⟨hc, hy⟩ := chk_some hy
  obtain rfl := Option.some.inj hy
  have := drs_flat hd
  subst this
  exact ⟨_, h x hc, drs_one (t := .str) _⟩

/-- strconv.FormatInt -/
noncomputable def fintS (_ : Nat) (x : Int × Int) : Option (List UInt8) := chk (i64B x.1 && decide (x.2 = 10)) (some (itoaF x.1))
theorem good_fint (h : ∀ n b, (i64B n && decide ((b : Int) = 10)) = true → T.sp f [.int .i64 n, .int .i64 b] = some (.str (itoaF n))) : GoodC T f ⟨sg1 [iI, iI] .str, fintS⟩ := by
  refine good_flat rfl rfl rfl fun N x y hy r us hd => ?_
  obtain ⟨hc, hy⟩ := chk_some hy
  obtain rfl := Option.some.inj hy
  have := drs_flat hd
  subst this
  exact ⟨_, h x.1 x.2 hc, drs_one (t := .str) _⟩

/-- what strconv.ParseInt(s, 10, 64) comes to: a number, whether there is an error -/
def pintN (s : List UInt8) : Int := match Lib.parseIntB 64 s with
  | .ok v => v
  | .range => Lib.intSat 64 s
  | _ => 0
def pintE (s : List UInt8) : Bool := match Lib.parseIntB 64 s with
  | .ok _ => false
  | _ => true
theorem pintF_is (s : List UInt8) : pintF s = .tup [.int .i64 (pintN s), bif pintE s then .ifaceX else .niliface] := by
  unfold pintF pintN pintE
  cases Lib.parseIntB 64 s <;> rfl

noncomputable def pintS (_ : Nat) (x : List UInt8 × Int × Int) : Option (Int × Bool) :=
  chk (decide (x.1.length ≤ 281474976710656) && decide (x.2.1 = 10) && decide (x.2.2 = 64)) (some (pintN x.1, pintE x.1))
theorem good_pint (h : ∀ s b z, (decide ((s : List UInt8).length ≤ 281474976710656) && decide ((b : Int) = 10) && decide ((z : Int) = 64)) = true → T.sp f [.str s, .int .i64 b, .int .i64 z] = some (pintF s)) : GoodC T f ⟨sg2 [.str, iI, iI] iI .err, pintS⟩ := by
  refine good_flat rfl rfl rfl fun N x y hy r us hd => ?_
  obtain ⟨hc, hy⟩ := chk_some hy
  obtain rfl := Option.some.inj hy
  have := drs_flat hd
  subst this
  refine ⟨_, h x.1 x.2.1 x.2.2 hc, [⟨.ty iI, pintN x.1⟩, ⟨.ty .err, pintE x.1⟩], [], _, [], rfl, rfl, ⟨[.int .i64 (pintN x.1), bif pintE x.1 then .ifaceX else .niliface], pintF_is _, ?_⟩, rfl, rfl⟩
  exact ⟨[⟨.ty iI, pintN x.1⟩], [⟨.ty .err, pintE x.1⟩], _, [_], rfl, rfl, ⟨pintN x.1, rfl, rfl⟩, drs_one (t := .err) (pintE x.1)⟩

/-- strings' Index -/
noncomputable def indexS (_ : Nat) (x : List UInt8 × List UInt8) : Option Int := chk (decide (x.1.length < 4294967281)) (some (idxF x.1 x.2 0))
theorem good_index (h : ∀ s t, decide ((s : List UInt8).length < 4294967281) = true → T.sp f [.str s, .str t] = some (.int .i64 (idxF s t 0))) : GoodC T f ⟨sg1 [.str, .str] iI, indexS⟩ := by
  refine good_flat rfl rfl rfl fun N x y hy r us hd => ?_
  obtain ⟨hc, hy⟩ := chk_some hy
  obtain rfl := Option.some.inj hy
  have := drs_flat hd
  subst this
  exact ⟨_, h x.1 x.2 hc, drs_one (t := iI) _⟩

/-- strings.Join -/
abbrev sgJ : Sg := ⟨[.sla 0 .any, .ty .str], [⟨false, .many .str⟩], ⟨[(0, .ty .str)], [], [], []⟩⟩
noncomputable def joinS (_ : Nat) (x : List UInt8 × List (List UInt8)) : Option (List UInt8) :=
  chk (decide (x.2.length ≤ 140737488355328) && decide ((Lib.join x.2 x.1).length ≤ 140737488355328)) (some (Lib.join x.2 x.1))

theorem strsOf_cells : ∀ xs : List (List UInt8), strsOf (xs.flatMap Ty.str.cells) = some xs
  | [] => rfl
  | x :: xs => by
    rw [List.flatMap_cons]
    show strsOf (.str x :: xs.flatMap Ty.str.cells) = _
    simp only [strsOf, strsOf_cells xs]

theorem good_join (h0 : ∀ args, T.sp f args = none) (hx : T.hx f = some evJoin) : GoodC T f ⟨sgJ, joinS⟩ := by
  intro N x y hy r H us hi
  obtain ⟨hc, hy⟩ := chk_some hy
  obtain rfl := Option.some.inj hy
  simp only [Bool.and_eq_true, decide_eq_true_eq] at hc
  obtain ⟨da, db, h1, h2, h3⟩ := hi.parts
  obtain ⟨d1, d2, u, us', rfl, rfl, ⟨rfl, w, hw, hcase⟩, e1, e2, u2, us2, rfl, rfl, ⟨sep, rfl, rfl⟩, rfl, rfl⟩ := h2
  obtain ⟨b1, b2, w', rfl, hw', ⟨xs, rfl, hl, hz, hpos, hB⟩, hlt, rfl⟩ := h3
  rw [hw] at hw'
  obtain rfl := Option.some.inj hw'
  have hx1 : x.1 = sep ∧ x.2 = xs := by
    have h1' : [(⟨.ty .str, x.1⟩ : Dyn), ⟨.lst .str, x.2⟩] = [⟨.ty .str, sep⟩, ⟨.lst .str, xs⟩] := h1
    injection h1' with a b
    injection b with b _
    injection a with _ a
    injection b with _ b
    exact ⟨a, b⟩
  obtain ⟨hx1, hx2⟩ := hx1
  have key : evJoin (evF T 0) 0 [u, .str sep] H = some (.str (Lib.join xs sep), H) := by
    rw [hx1, hx2] at hc
    rcases hcase with ⟨hv, rfl, hl0⟩ | ⟨hv, c, _, rfl⟩
    · have : xs = [] := List.eq_nil_of_length_eq_zero (by omega)
      subst this
      rfl
    · rcases hB with ⟨hv', _⟩ | ⟨_, pre, post, hg, hp⟩
      · rw [hv] at hv'; simp at hv'
      · have hld : loadAt H w.hb w.base (w.len * 1) = some (xs.flatMap Ty.str.cells) := by
          rw [← hp, hl]
          have := load_all (t := .str) hg
          exact this
        simp only [evJoin, hld, hz]
        rw [show strsOf (List.flatMap Ty.str.cells xs) = some xs from strsOf_cells xs]
        dsimp only
        rw [show ((Ty.str.size).beq 1 && decide (w.len ≤ 140737488355328) && decide ((Lib.join xs sep).length ≤ 140737488355328)) = true by
          simp only [Bool.and_eq_true, decide_eq_true_eq]; exact ⟨⟨rfl, by omega⟩, hc.2⟩]
        rfl
  refine ⟨1, .str (Lib.join xs sep), H, r, fun n hn => ?_, ⟨⟨[⟨.ty .str, Lib.join xs sep⟩], [], [], by rw [hx1, hx2]; rfl, drs_one (t := .str) _, rfl, rfl⟩, fun x hx => by simp at hx, fun i j w w' _ hi => by simp at hi, fun _ h => h, fun _ => rfl, fun _ _ _ => rfl, ⟨[], rfl, fun x hx => by simp at hx⟩⟩⟩
  obtain ⟨k, rfl⟩ : ∃ k, n = k + 1 := ⟨n - 1, by omega⟩
  simp only [evF, h0, hx]
  exact key

theorem mkL {c : Ctr} (g : GoodC T f c) (ok : c.sg.ok = true) (k : GoodK T K) : GoodC T f c ∧ GoodK T (kc f c K) := ⟨g, gk_kc g ok k⟩
end
end Go.Sh

/- Closed calls that bring a fresh slice with plain values beside it: a table that knows them; their contract. No condition. -/

namespace Go.Ev
open Go
set_option linter.unusedVariables false

/-- what such a call came to: the slice's cells, the other values -/
def freshOf : Option (AV × Heap) → Option (List AV × List AV)
  | some (.tup (.sl b off len none 1 :: rest), H) => match loadAt H b off (len * 1) with
    | some cs => bif cs.length.beq len && cs.all AV.scalar && rest.all AV.scalar then some (cs, rest) else none
    | none => none
  | _ => none

/-- its evaluator: what it is known to come to -/
def evKn (k : List AV → Option (List AV × List AV)) (callF : CallF) (n : Nat) (args : List AV) (h : Heap) : Option (AV × Heap) :=
  match k args with
  | some (cs, rest) => some (.tup (.sl h.nb 0 cs.length none 1 :: rest), h.push cs)
  | none => none

def hxK (f : Nat) (k : List AV → Option (List AV × List AV)) (hx : Nat → Option (CallF → Nat → List AV → Heap → Option (AV × Heap))) (f' : Nat) : Option (CallF → Nat → List AV → Heap → Option (AV × Heap)) :=
  bif f'.beq f then some (evKn k) else hx f'

def Tab.grants (T : Tab) (f : Nat) (k : List AV → Option (List AV × List AV)) : Tab := { fn := T.fn, sp := T.sp, hx := hxK f k T.hx }

theorem VRs.allScalar {j j' : JM} {vs : List AV} {l : List Value} (h : vs.all AV.scalar = true) (hv : VRs j vs l) : VRs j' vs l := VRs.scalar h hv

theorem GoodTab.grants [Home] {P : Program} {md : Nat → Nat} {T : Tab} (hG : GoodTab P md T) (hmix : P.follows .mixedOrders = true) {f : Nat} {k : List AV → Option (List AV × List AV)} (h0 : md f = 0) (hF : ∃ F, T.fn f = some F)
    (hk : ∀ args r, k args = some r → args.all AV.scalar = true ∧ ∃ n, freshOf (evF T n f args Heap.empty) = some r) : GoodTab P md (T.grants f k) where
  fn := hG.fn
  sp := hG.sp
  hx := fun f' g hg => by
    unfold Tab.grants hxK at hg
    simp only at hg
    rw [cond_eq_ite] at hg
    split at hg
    · rename_i hf'
      obtain rfl := Nat.eq_of_beq_eq_true hf'
      obtain rfl := Option.some.inj hg
      obtain ⟨F, hF⟩ := hF
      obtain ⟨fn, code, hfn, hb, hn, _, _⟩ := (hG.fn f' F hF).2
      refine ⟨h0, fun l w => run_callFunc hfn hb hn _ _, fun callF _ _ _ n args H v H' hev => ?_⟩
      unfold evKn at hev
      split at hev
      · rename_i cs rest hkr
        simp only [Option.some.injEq, Prod.mk.injEq] at hev
        obtain ⟨rfl, rfl⟩ := hev
        refine ⟨Mono.push _ _, fun j w l hw hl => ?_⟩
        obtain ⟨hargs, m, hm⟩ := hk _ _ hkr
        obtain ⟨hc, _, _⟩ := evF_sound hG hmix m
        unfold freshOf at hm
        split at hm
        · rename_i b off len rest' H1 hev1
          split at hm
          · rename_i cs' hcs
            obtain ⟨hb2, hm⟩ := bif_some hm
            simp only [Option.some.injEq, Prod.mk.injEq] at hm
            obtain ⟨rfl, rfl⟩ := hm
            simp only [Bool.and_eq_true, Nat.beq_eq] at hb2
            obtain ⟨⟨hlen, hsc⟩, hrest⟩ := hb2
            have h1 := (hc f' args Heap.empty _ H1 hev1 (fun _ => none) w l (WR.empty w hw.gsz hw.inv) (VRs.scalar hargs hl)).2
            refine h1.mono ?_
            rintro en w' ⟨j', c, htr, hv, rfl⟩
            obtain ⟨lt, rfl, c0, cs0, rfl, hv0, hvr⟩ := hv
            obtain ⟨j2, h2, h3⟩ := newSl_gen hw no_own_empty htr hv0 (wr_empty _) hcs hsc
            subst hlen
            exact ⟨j2, _, h2, ⟨_, rfl, c0, cs0, rfl, h3, VRs.scalar hrest hvr⟩, rfl⟩
          · simp at hm
        · simp at hm
      · simp at hev
    · exact hG.hx f' g hg
end Go.Ev

namespace Go.Sh
open Go Go.Ev
set_option linter.unusedVariables false
set_option linter.unusedSimpArgs false

/-- an image of a known text: a text, a number; a slice of bytes, a nil slice, two numbers -/
abbrev sgA : Sg := ⟨[.ty .str, .ty iI], [], ⟨[(0, .tup [.sla 0 .yes, .nils, .ty iI, .ty iI])], [], [], [⟨true, .many (.int .u8)⟩]⟩⟩

/-- texts, numbers, and what is known to come -/
def imgL : List (List UInt8 × Int × List Int) → List UInt8 → Int → Option (List Int)
  | [], _, _ => none
  | (t, n, l) :: r, s, m => bif s == t && decide (m = n) then some l else imgL r s m

def imgK (L : List (List UInt8 × Int × List Int)) (args : List AV) : Option (List AV × List AV) :=
  match args with
  | [.str s, .int .i64 n] => (match imgL L s n with
    | some l => some (l.map (AV.int .u8), [.nilsl, .int .i64 0, .int .i64 0])
    | none => none)
  | _ => none

noncomputable def imgS (L : List (List UInt8 × Int × List Int)) (_ : Nat) (x : List UInt8 × Int) : Option (Int × Int × List Int) :=
  match imgL L x.1 x.2 with
  | some l => some (0, 0, l)
  | none => none

theorem imgL_mem {L : List (List UInt8 × Int × List Int)} {s : List UInt8} {n : Int} {l : List Int} (h : imgL L s n = some l) : (s, n, l) ∈ L := by
  induction L with
  | nil => simp [imgL] at h
  | cons x L ih =>
    obtain ⟨t, m, l'⟩ := x
    simp only [imgL, cond_eq_ite] at h
    split at h
    · rename_i hc
      simp only [Bool.and_eq_true, beq_iff_eq, decide_eq_true_eq] at hc
      obtain ⟨rfl, rfl⟩ := hc
      obtain rfl := Option.some.inj h
      simp
    · simp [ih h]

/-- the texts' images, checked one by one -/
theorem imgK_ok {T : Tab} {f : Nat} {L : List (List UInt8 × Int × List Int)} (h : ∀ x ∈ L, ∃ n, freshOf (evF T n f [.str x.1, .int .i64 x.2.1] Heap.empty) = some (x.2.2.map (AV.int .u8), [.nilsl, .int .i64 0, .int .i64 0])) :
    ∀ args r, imgK L args = some r → args.all AV.scalar = true ∧ ∃ n, freshOf (evF T n f args Heap.empty) = some r := by
  intro args r hr
  unfold imgK at hr
  split at hr
  · rename_i s n
    split at hr
    · rename_i l hl
      obtain rfl := Option.some.inj hr
      exact ⟨rfl, h _ (imgL_mem hl)⟩
    · simp at hr
  · simp at hr

section
variable {T : Tab} {f : Nat} {K : CTab}

theorem u8_cells (l : List Int) : l.flatMap (Ty.int .u8).cells = l.map (AV.int .u8) := by
  induction l with
  | nil => rfl
  | cons a l ih => rw [List.flatMap_cons, List.map_cons, ih]; rfl

theorem good_img {L : List (List UInt8 × Int × List Int)} (h0 : ∀ args, T.sp f args = none) (hx : T.hx f = some (evKn (imgK L))) : GoodC T f ⟨sgA, imgS L⟩ := by
  intro N x y hy r H us hi
  obtain ⟨da, db, h1, h2, h3⟩ := hi.parts
  have e : db = [] := h3
  subst e
  rw [List.append_nil] at h1
  have hus := drs_flat (ts := [.str, iI]) h2
  rw [← h1] at hus
  have hus : us = [.str x.1, .int .i64 x.2] := hus
  subst hus
  have hy' : (match imgL L x.1 x.2 with | some l => some ((0, 0, l) : Int × Int × List Int) | none => none) = some y := hy
  split at hy'
  · rename_i l hl
    have hy2 : ((0, 0, l) : Int × Int × List Int) = y := Option.some.inj hy'
    subst hy2
    have key : evKn (imgK L) (evF T 0) 0 [.str x.1, .int .i64 x.2] H = some (.tup (.sl H.nb 0 (l.map (AV.int .u8)).length none 1 :: [.nilsl, .int .i64 0, .int .i64 0]), H.push (l.map (AV.int .u8))) := by
      unfold evKn imgK
      simp only [hl]
    have hfm := u8_cells l
    refine ⟨1, .tup (.sl H.nb 0 (l.map (AV.int .u8)).length none 1 :: [.nilsl, .int .i64 0, .int .i64 0]), H.push (l.map (AV.int .u8)), upd r 0 ⟨false, H.nb, 0, l.length, 1⟩, fun n hn => ?_, ⟨⟨[⟨.ty iI, 0⟩, ⟨.ty iI, 0⟩], [], [⟨.lst (.int .u8), l⟩], rfl, ?_, rfl, ?_⟩, fun x hx => by simp at hx, fun i j w w' hij hi hj => ?_, fun x hx => has_push _ hx, fun _ => rfl, fun x hx _ => by rw [Heap.get_push, if_neg (ne_nb hx)], ⟨[], rfl, fun x hx => by simp at hx⟩⟩⟩
    · obtain ⟨k, rfl⟩ : ∃ k, n = k + 1 := ⟨n - 1, by omega⟩
      simp only [evF, h0, hx]
      exact key
    · refine ⟨[⟨.ty iI, 0⟩, ⟨.ty iI, 0⟩], [], _, [], rfl, rfl, ⟨_, rfl, ?_⟩, rfl, rfl⟩
      refine ⟨[], _, _, _, rfl, rfl, ⟨rfl, ⟨false, H.nb, 0, l.length, 1⟩, by simp [upd], .inr ⟨rfl, none, rfl, by simp⟩⟩, ?_⟩
      refine ⟨[], _, _, _, rfl, rfl, ⟨rfl, rfl⟩, ?_⟩
      exact ⟨[⟨.ty iI, 0⟩], [⟨.ty iI, 0⟩], _, _, rfl, rfl, ⟨0, rfl, rfl⟩, drs_one (t := iI) 0⟩
    · refine ⟨[⟨.lst (.int .u8), l⟩], [], ⟨false, H.nb, 0, l.length, 1⟩, rfl, by simp [upd], ⟨l, rfl, rfl, rfl, by decide, .inr ⟨rfl, [], [], by simp [hfm], rfl⟩⟩, fun _ => ⟨has_push_nb H _, by rw [Heap.wr_push]; exact hi.rn _ (not_has_nb H), .inr (not_has_nb H)⟩, rfl⟩
    · simp at hi hj; omega
  · simp at hy'
end
end Go.Sh
