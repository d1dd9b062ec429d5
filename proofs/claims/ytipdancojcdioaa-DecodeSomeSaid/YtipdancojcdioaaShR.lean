/- A function's contract, by its body and by how it is called. No condition. -/
import Derived.Test.YtipdancojcdioaaShQ
namespace Go.Sh
set_option linter.unusedVariables false
set_option linter.unusedSimpArgs false
open Go Go.Ev

/-- no address inside -/
def flatR : RSh → Bool
  | .ty _ => true
  | .nilp => true
  | .nils => true
  | .nilf => true
  | .cst _ _ => true
  | _ => false

def freeR : RSh → Bool
  | .tup l => l.all flatR
  | r => flatR r

def scal1 : AV → Bool
  | .agg cs => cs.all AV.scalar
  | v => v.scalar

theorem scal1_free {u : AV} (h : scal1 u = true) : u.free = true := by
  cases u <;> first | exact h | simp [scal1, AV.scalar] at h

theorem tyAV_free (t : Ty) (x : t.den) : scal1 (tyAV t x) = true := by
  cases ha : t.agg with
  | true =>
    rw [tyAV_agg _ _ ha]
    exact cells_scalar t x
  | false =>
    obtain ⟨h1, _⟩ := tyAV_one t x ha
    have h2 := cells_scalar t x
    rw [h1] at h2
    simp only [List.all_cons, List.all_nil, Bool.and_true] at h2
    cases t <;> first | rfl | simp [Ty.agg] at ha

theorem flatR_free {q : RM} {sh : RSh} {ds : List Dyn} {u : AV} (h : DR q sh ds u) (hf : flatR sh = true) : scal1 u = true := by
  cases sh <;> simp only [flatR] at hf <;> first | (simp at hf; done) | skip
  case ty t => obtain ⟨x, _, rfl⟩ := h; exact tyAV_free t x
  case nilp => obtain ⟨_, rfl⟩ := h; rfl
  case nils => obtain ⟨_, rfl⟩ := h; rfl
  case nilf => obtain ⟨_, rfl⟩ := h; rfl
  case cst k n => obtain ⟨_, rfl⟩ := h; rfl

theorem freeRs {q : RM} : ∀ {l : List RSh} {ds : List Dyn} {us : List AV}, DRs q l ds us → l.all flatR = true → us.all scal1 = true
  | [], ds, us, h, _ => by obtain ⟨_, rfl⟩ := h; rfl
  | x :: l, ds, us, h, hf => by
    obtain ⟨d1, d2, u, us', _, he, h1, h2⟩ := h
    subst he
    rw [List.all_cons, Bool.and_eq_true] at hf
    rw [List.all_cons, freeRs h2 hf.2, Bool.and_true]
    exact flatR_free h1 hf.1

theorem freeR_free {q : RM} {sh : RSh} {ds : List Dyn} {u : AV} (h : DR q sh ds u) (hf : freeR sh = true) : u.free = true := by
  unfold freeR at hf
  split at hf
  · obtain ⟨us, rfl, h2⟩ := h
    have := freeRs h2 hf
    rw [List.all_eq_true] at this
    show us.all _ = true
    rw [List.all_eq_true]
    intro v hv
    have := this v hv
    cases v <;> exact this
  · exact scal1_free (flatR_free h hf)

theorem freeArgs {q : RM} : ∀ {l : List RSh} {ds : List Dyn} {us : List AV}, DRs q l ds us → l.all flatR = true → us.all AV.free = true
  | [], ds, us, h, _ => by obtain ⟨_, rfl⟩ := h; rfl
  | x :: l, ds, us, h, hf => by
    obtain ⟨d1, d2, u, us', _, he, h1, h2⟩ := h
    subst he
    rw [List.all_cons, Bool.and_eq_true] at hf
    rw [List.all_cons, freeArgs h2 hf.2, Bool.and_true]
    exact scal1_free (flatR_free h1 hf.1)

section
variable {T : Tab} {f : Nat} {K : CTab} {c : Ctr} {F : AFunc} {nt : Note}

/-- a table where nothing is said of calls -/
def NoSp (T : Tab) : Prop := ∀ f args, T.sp f args = none

theorem evF_body (hs : NoSp T) (hT : T.fn f = some F) {n : Nat} {us : List AV} {H : Heap} : evF T (n + 1) f us H = evT T.fn (evF T n) n f us H := by
  simp only [evF, hs f us]

theorem good0 (hs : NoSp T) (hK : GoodK T K) (hT : T.fn f = some F) (hm : F.mode = 0) (hok : c.sg.ok = true) (hfn : ∀ N x, c.fn N x = fnS N K F nt c.sg x) : GoodC T f c := by
  intro N x y hy r H us hi
  rw [hfn] at hy
  obtain ⟨n0, u, H', q, h1, h2⟩ := body_out (cf := evF T) (callS := callK N K) (callK_sound hK) hok hy hi
  refine ⟨n0 + 1, u, H', q, fun n hn => ?_, h2⟩
  obtain ⟨m, rfl⟩ : ∃ m, n = m + 1 := ⟨n - 1, by omega⟩
  rw [evF_body hs hT]
  unfold evT
  rw [hT]
  simp only [hm]
  exact h1 m (by omega)

theorem frz_in {r : RM} {H : Heap} : ∀ {l : List BSh} {k : Nat} {ds : List Dyn}, (l.all fun b => !b.own) = true → BlksIn r H k l ds → BlksIn r H.frz k l ds
  | [], k, ds, _, h => h
  | ⟨own, bc⟩ :: l, k, ds, ho, ⟨d1, d2, w, h1, h2, h3, h4, h5⟩ => by
    rw [List.all_cons, Bool.and_eq_true] at ho
    refine ⟨d1, d2, w, h1, h2, ?_, fun hv => ⟨(h4 hv).1, fun hb => by simp only at hb; rw [hb] at ho; simp at ho⟩, frz_in ho.2 h5⟩
    cases bc with
    | one sh => obtain ⟨g0, u, pre, post, g1, g2, g3⟩ := h3; exact ⟨g0, u, pre, post, g1, by simpa using g2, g3⟩
    | many t =>
      obtain ⟨xs, g1, g2, g3, g4, g5⟩ := h3
      exact ⟨xs, g1, g2, g3, g4, by simpa using g5⟩

theorem InOk.frz {r : RM} {H : Heap} {c : Sg} {x : c.inp} {us : List AV} (h : InOk r H c x us) (ho : (c.blks.all fun b => !b.own) = true) : InOk r H.frz c x us := by
  obtain ⟨da, db, h1, h2, h3⟩ := h.parts
  exact ⟨⟨da, db, h1, h2, frz_in ho h3⟩, h.dm, h.ap, Nat.le_refl _⟩

theorem no_mine {r : RM} {c : Sg} (ho : (c.blks.all fun b => !b.own) = true) (x : Nat) : ¬ Mine r c x := by
  rintro ⟨j, b, w, h1, h2, _⟩
  have := List.all_eq_true.1 ho b (List.mem_of_getElem? h1)
  rw [h2] at this
  simp at this

/-- a result without addresses, the heap as it was -/
theorem quiet_out {r : RM} {H H1 H2 : Heap} {c : Sg} {y : c.res} {u : AV} {q : RM} (h : OutOk r H1 c y u H2 q) (ho : c.out.old = []) (hn : c.out.new = []) : OutOk r H c y u H q := by
  obtain ⟨d1, d2, d3, h1, h2, h3, h4⟩ := h.parts
  rw [ho] at h3
  rw [hn] at h4
  refine ⟨⟨d1, d2, d3, h1, h2, ?_, ?_⟩, fun x hx => by rw [ho] at hx; simp at hx, fun i j w w' _ hi => by rw [hn] at hi; simp at hi, Nat.le_refl _, rfl, fun _ _ _ => rfl, ⟨[], rfl, fun x hx => by simp at hx⟩⟩
  · rw [ho]; exact h3
  · rw [hn]; exact h4

theorem regs1 {q : RM} {l : List (Nat × RSh)} {ds : List Dyn} {u : AV} (h : DRs q (l.map (·.2)) ds [u]) (hf : (l.all fun x => freeR x.2) = true) : u.free = true := by
  cases l with
  | nil => obtain ⟨_, h⟩ := h; simp at h
  | cons x l =>
    obtain ⟨d1, d2, u', us', _, he, h1, _⟩ := h
    simp only [List.cons.injEq] at he
    obtain ⟨rfl, _⟩ := he
    rw [List.all_cons, Bool.and_eq_true] at hf
    exact freeR_free h1 hf.1

def roRes (c : Sg) : Bool := (c.blks.all fun b => !b.own) && c.out.old.isEmpty && c.out.new.isEmpty && (c.out.regs.all fun x => freeR x.2)

theorem good1 (hs : NoSp T) (hK : GoodK T K) (hT : T.fn f = some F) (hm : F.mode = 1) (hok : c.sg.ok = true) (hro : roRes c.sg = true) (hfn : ∀ N x, c.fn N x = fnS N K F nt c.sg x) : GoodC T f c := by
  intro N x y hy r H us hi
  rw [hfn] at hy
  simp only [roRes, Bool.and_eq_true, List.isEmpty_iff] at hro
  obtain ⟨⟨⟨r1, r2⟩, r3⟩, r4⟩ := hro
  obtain ⟨n0, u, H', q, h1, h2⟩ := body_out (cf := evF T) (callS := callK N K) (callK_sound hK) hok hy (hi.frz r1)
  refine ⟨n0 + 1, u, H, q, fun n hn => ?_, quiet_out h2 r2 r3⟩
  obtain ⟨m, rfl⟩ : ∃ m, n = m + 1 := ⟨n - 1, by omega⟩
  obtain ⟨d1, d2, d3, e1, e2, e3, e4⟩ := h2.parts
  rw [evF_body hs hT]
  unfold evT
  rw [hT]
  simp only [hm]
  rw [h1 m (by omega)]
  simp only [regs1 e2 r4, cond_true]

theorem good2 (hs : NoSp T) (hK : GoodK T K) (hT : T.fn f = some F) (hm : F.mode = 2) (hok : c.sg.ok = true) (hro : roRes c.sg = true) (hb : c.sg.blks = []) (ha : c.sg.args.all flatR = true) (hfn : ∀ N x, c.fn N x = fnS N K F nt c.sg x) : GoodC T f c := by
  intro N x y hy r H us hi
  rw [hfn] at hy
  simp only [roRes, Bool.and_eq_true, List.isEmpty_iff] at hro
  obtain ⟨⟨⟨r1, r2⟩, r3⟩, r4⟩ := hro
  have hi2 : InOk r Heap.empty c.sg x us := by
    obtain ⟨da, db, g1, g2, g3⟩ := hi.parts
    refine ⟨⟨da, db, g1, g2, ?_⟩, hi.dm, hi.ap, Nat.le_refl _⟩
    rw [hb] at g3 ⊢
    exact g3
  obtain ⟨n0, u, H', q, h1, h2⟩ := body_out (cf := evF T) (callS := callK N K) (callK_sound hK) hok hy hi2
  refine ⟨n0 + 1, u, H, q, fun n hn => ?_, quiet_out h2 r2 r3⟩
  obtain ⟨m, rfl⟩ : ∃ m, n = m + 1 := ⟨n - 1, by omega⟩
  obtain ⟨d1, d2, d3, e1, e2, e3, e4⟩ := h2.parts
  obtain ⟨da, db, g1, g2, g3⟩ := hi.parts
  rw [evF_body hs hT]
  unfold evT
  rw [hT]
  simp only [hm]
  rw [freeArgs g2 ha, cond_true, h1 m (by omega)]
  simp only [regs1 e2 r4, cond_true]

/-- a slice of its own comes back -/
def slRes (c : Sg) (size : Nat) : Bool := (c.blks.all fun b => !b.own) && c.out.old.isEmpty &&
  (match c.out.regs, c.out.new with
  | [(_, .sla k .yes)], [⟨true, .many t⟩] => k.beq c.blks.length && t.size.beq size
  | _, _ => false)

theorem flatMap_scalar {t : Ty} (xs : List t.den) : (xs.flatMap t.cells).all AV.scalar = true := by
  induction xs with
  | nil => rfl
  | cons x xs ih => rw [List.flatMap_cons, List.all_append, cells_scalar, ih]; rfl

theorem good3 (hs : NoSp T) (hK : GoodK T K) (hT : T.fn f = some F) (hm : F.mode = 3) (hok : c.sg.ok = true) (hro : slRes c.sg F.size = true) (hfn : ∀ N x, c.fn N x = fnS N K F nt c.sg x) : GoodC T f c := by
  intro N x y hy r H us hi
  rw [hfn] at hy
  simp only [slRes, Bool.and_eq_true, List.isEmpty_iff] at hro
  obtain ⟨⟨r1, r2⟩, r3⟩ := hro
  obtain ⟨n0, u, H', q, h1, h2⟩ := body_out (cf := evF T) (callS := callK N K) (callK_sound hK) hok hy (hi.frz r1)
  obtain ⟨d1, d2, d3, e1, e2, e3, e4⟩ := h2.parts
  split at r3
  · rename_i k0 k t hregs hnew
    simp only [Bool.and_eq_true, Nat.beq_eq] at r3
    obtain ⟨rfl, hsz⟩ := r3
    rw [hregs] at e2
    rw [hnew] at e4
    rw [r2] at e3
    obtain ⟨d11, d12, u', us', q1, q2, q3, q4⟩ := e2
    simp only [List.cons.injEq] at q2
    obtain ⟨rfl, rfl⟩ := q2
    obtain ⟨q5, _⟩ := q4
    obtain ⟨q6, w, q7, q8⟩ := q3
    subst q5 q6
    rw [List.append_nil] at q1
    subst q1
    obtain ⟨d31, d32, w', p1, p2, p3, p4, p5⟩ := e4
    simp only [NewsOut] at p5
    subst p5
    rw [List.append_nil] at p1
    subst p1
    rw [q7] at p2
    obtain rfl := Option.some.inj p2
    obtain ⟨xs, p6, p7, p8, p9, p10⟩ := p3
    have hlen : c.sg.out.new.length = 1 := by rw [hnew]; rfl
    have key : ∀ (u2 : AV) (H2 : Heap) (w2 : W), newSl H F.size H' u = some (u2, H2) → VR (upd q c.sg.blks.length w2) (.sla c.sg.blks.length .yes) u2 → BR (upd q c.sg.blks.length w2) H2 w2 (.many t xs) → (w2.virt = false → w2.hb < H2.next ∧ H2.ro ≤ w2.hb ∧ H.next ≤ w2.hb) →
        H.next ≤ H2.next → H2.ro = H.ro → (∀ x, x < H.next → H2.get x = H.get x) → H2.log = H.log →
        ∃ n0 u H' q, (∀ n, n0 ≤ n → evF T n f us H = some (u, H')) ∧ OutOk r H c.sg y u H' q := by
      intro u2 H2 w2 k1 k2 k3 k4 k5 k6 k7 k8
      refine ⟨n0 + 1, u2, H2, upd q c.sg.blks.length w2, fun n hn => ?_, ⟨⟨[], [], d3, ?_, ?_, ?_, ?_⟩, fun x hx => by rw [r2] at hx; simp at hx, fun i j w w' hij hi hj => by omega, k5, k6, fun x hx _ => k7 x hx, ⟨[], by simpa using k8, fun x hx => by simp at hx⟩⟩⟩
      · obtain ⟨m, rfl⟩ : ∃ m, n = m + 1 := ⟨n - 1, by omega⟩
        rw [evF_body hs hT]
        unfold evT
        rw [hT]
        simp only [hm]
        rw [h1 m (by omega)]
        exact k1
      · rw [e1, e3]
      · rw [hregs]
        exact ⟨[], [], u2, [], rfl, rfl, ⟨rfl, k2⟩, rfl, rfl⟩
      · rw [r2]; rfl
      · rw [hnew]
        exact ⟨d3, [], w2, by simp, by simp [upd], ⟨xs, p6, k3⟩, fun hv => ⟨(k4 hv).1, (k4 hv).2.1, .inr (k4 hv).2.2⟩, rfl⟩
    rcases q8 with ⟨q8, rfl, q9⟩ | ⟨q8, cc, q9, rfl⟩
    · have hxs : xs = [] := isNil_of_len (by omega)
      subst hxs
      exact key .nilsl H w rfl ⟨w, by simp [upd], .inl ⟨q8, rfl, q9⟩⟩ ⟨p7, p8, p9, .inl ⟨q8, rfl⟩⟩ (fun hv => by rw [q8] at hv; simp at hv) (Nat.le_refl _) rfl (fun _ _ => rfl) rfl
    · simp only [Ex.cp, CpR] at q9
      subst q9
      rcases p10 with ⟨p10, _⟩ | ⟨_, pre, post, p11, p12⟩
      · rw [q8] at p10; simp at p10
      · obtain ⟨g1, g2, g3⟩ := p4 q8
        have hb : H.next ≤ w.hb := by
          rcases g3 with g3 | g3
          · exact absurd g3 (no_mine r1 _)
          · simpa using g3
        have hload := load_all p11
        rw [p12, ← p8] at hload
        refine key (.sl H.next 0 w.len none w.size) (H.push (xs.flatMap t.cells)) ⟨false, H.next, 0, w.len, w.size⟩ ?_ ⟨⟨false, H.next, 0, w.len, w.size⟩, by simp [upd], .inr ⟨rfl, none, rfl, rfl⟩⟩ ⟨p7, p8, p9, .inr ⟨rfl, [], [], by simp, rfl⟩⟩ (fun _ => ⟨by simp, by simp only [Heap.ro_push]; exact hi.rn, Nat.le_refl _⟩) (by simp) rfl (fun x hx => by simp; omega) rfl
        unfold newSl
        simp only
        rw [decide_eq_true hb, show w.size.beq F.size = true by rw [p8, hsz]; exact Nat.beq_refl _, Bool.and_self, cond_true, p7, ← hsz, ← p8, hload]
        simp only [flatMap_scalar, cond_true]
  · simp at r3

end
end Go.Sh
