/- Shapes: what is told of a state, and a state out of what is told. No condition. -/
import Derived.Test.YtipdancojcdioaaShK
namespace Go.Sh
set_option linter.unusedVariables false
set_option linter.unusedSimpArgs false
open Go Go.Ev

theorem cast_sound {a : VT} {d : Dyn} {x : a.den} (h : a.cast d = some x) : d = ⟨a, x⟩ := by
  obtain ⟨b, y⟩ := d
  cases a <;> cases b <;> simp only [VT.cast] at h
  case ty.ty t t' =>
    obtain ⟨rfl, rfl⟩ := castT_sound h
    rfl
  case lst.lst t t' =>
    obtain ⟨rfl, rfl⟩ := castL_sound h
    rfl
  case nat.nat => obtain rfl := Option.some.inj h; rfl
  all_goals simp at h

theorem castT_self (t : Ty) (x : t.den) : castT t t x = some x := by
  unfold castT
  split
  · rfl
  · rename_i h _
    exact absurd rfl h

theorem castL_self (t : Ty) (x : List t.den) : castL t t x = some x := by
  unfold castL
  split
  · rfl
  · rename_i h _
    exact absurd rfl h

theorem cast_self (a : VT) (x : a.den) : a.cast ⟨a, x⟩ = some x := by
  cases a with
  | ty t => exact castT_self t x
  | lst t => exact castL_self t x
  | nat => rfl

theorem toHL_sound : ∀ {sig : List VT} {ds : List Dyn} {y : HL sig}, toHL sig ds = some y → ofHL sig y = ds
  | [], [], y, h => rfl
  | [], _ :: _, y, h => by simp [toHL] at h
  | [a], [d], y, h => by
    simp only [toHL] at h
    rw [cast_sound h]
    rfl
  | [a], [], y, h => by simp [toHL] at h
  | [a], _ :: _ :: _, y, h => by simp [toHL] at h
  | a :: b :: r, [], y, h => by simp [toHL] at h
  | a :: b :: r, d :: ds, y, h => by
    simp only [toHL] at h
    split at h
    · rename_i x z hx hz
      obtain rfl := Option.some.inj h
      simp only [ofHL]
      rw [cast_sound hx, toHL_sound hz]
    · simp at h

/-! ### what data say, by their shapes -/
mutual
def DR (r : RM) : RSh → List Dyn → AV → Prop
  | .ty t, ds, u => ∃ x, ds = [⟨.ty t, x⟩] ∧ u = tyAV t x
  | .nilp, ds, u => ds = [] ∧ u = .nilptr
  | .nils, ds, u => ds = [] ∧ u = .nilsl
  | .nilf, ds, u => ds = [] ∧ u = .nilfn
  | .cst k n, ds, u => ds = [] ∧ u = .int k n
  | .ptr k, ds, u => ds = [] ∧ VR r (.ptr k 0 []) u
  | .sla k ex, ds, u => ds = [] ∧ VR r (.sla k ex) u
  | .slw k, ds, u => ∃ o l, ds = [⟨.nat, o⟩, ⟨.nat, l⟩] ∧ VR r (.slw k o l .any) u
  | .segs l, ds, u => ∃ cs, u = .agg cs ∧ DCs r l ds cs
  | .tup l, ds, u => ∃ us, u = .tup us ∧ DRs r l ds us
  | .fn f a c, ds, u => ∃ us ws d1 d2, u = .fn f us ws ∧ ds = d1 ++ d2 ∧ DRs r a d1 us ∧ DRs r c d2 ws
def DRs (r : RM) : List RSh → List Dyn → List AV → Prop
  | [], ds, us => ds = [] ∧ us = []
  | x :: l, ds, us => ∃ d1 d2 u us', ds = d1 ++ d2 ∧ us = u :: us' ∧ DR r x d1 u ∧ DRs r l d2 us'
def DCs (r : RM) : List RSh → List Dyn → List AV → Prop
  | [], ds, cs => ds = [] ∧ cs = []
  | x :: l, ds, cs => ∃ d1 d2 u cs', ds = d1 ++ d2 ∧ cs = u.cells ++ cs' ∧ DR r x d1 u ∧ DCs r l d2 cs'
end

/-- a map of blocks goes over into another one, under other numbers -/
def Via (rn : Nat → Nat) (r r' : RM) : Prop := ∀ k w, r k = some w → r' (rn k) = some w

theorem VR.via_sla {rn : Nat → Nat} {r r' : RM} (h : Via rn r r') {k : Nat} {ex : Ex} {u : AV} (k1 : VR r (.sla k ex) u) : VR r' (.sla (rn k) ex) u := by
  obtain ⟨w, a, b⟩ := k1
  exact ⟨w, h _ _ a, b⟩
theorem VR.via_slw {rn : Nat → Nat} {r r' : RM} (h : Via rn r r') {k o l : Nat} {c : Cp} {u : AV} (k1 : VR r (.slw k o l c) u) : VR r' (.slw (rn k) o l c) u := by
  obtain ⟨w, a, b⟩ := k1
  exact ⟨w, h _ _ a, b⟩
theorem VR.via_ptr {rn : Nat → Nat} {r r' : RM} (h : Via rn r r') {k o : Nat} {p : List Ix} {u : AV} (k1 : VR r (.ptr k o p) u) : VR r' (.ptr (rn k) o p) u := by
  obtain ⟨w, a, b⟩ := k1
  exact ⟨w, h _ _ a, b⟩

mutual
theorem conR_sound {rn : Nat → Nat} {r r' : RM} (hv : Via rn r r') : ∀ {sh : RSh} {ds : List Dyn} {u : AV}, DR r sh ds u → ∃ v, (∀ rest, conR rn sh (ds ++ rest) = some (v, rest)) ∧ VR r' v u
  | .ty t, ds, u, ⟨x, h1, h2⟩ => ⟨.ty t x, fun rest => by subst h1; simp only [List.singleton_append, conR, cast_self], h2⟩
  | .nilp, ds, u, ⟨h1, h2⟩ => ⟨.nilp, fun rest => by subst h1; rfl, h2⟩
  | .nils, ds, u, ⟨h1, h2⟩ => ⟨.nils, fun rest => by subst h1; rfl, h2⟩
  | .nilf, ds, u, ⟨h1, h2⟩ => ⟨.nilf, fun rest => by subst h1; rfl, h2⟩
  | .cst k n, ds, u, ⟨h1, h2⟩ => ⟨.ty (.int k) n, fun rest => by subst h1; rfl, h2⟩
  | .ptr k, ds, u, ⟨h1, h2⟩ => ⟨.ptr (rn k) 0 [], fun rest => by subst h1; rfl, VR.via_ptr hv h2⟩
  | .sla k ex, ds, u, ⟨h1, h2⟩ => ⟨.sla (rn k) ex, fun rest => by subst h1; rfl, VR.via_sla hv h2⟩
  | .slw k, ds, u, ⟨o, l, h1, h2⟩ => ⟨.slw (rn k) o l .any, fun rest => by subst h1; rfl, VR.via_slw hv h2⟩
  | .segs l, ds, u, ⟨cs, h1, h2⟩ => by
    obtain ⟨vs, h3, h4⟩ := conCs_sound hv h2
    exact ⟨.segs vs, fun rest => by simp only [conR, h3], cs, h1, h4⟩
  | .tup l, ds, u, ⟨us, h1, h2⟩ => by
    obtain ⟨vs, h3, h4⟩ := conRs_sound hv h2
    exact ⟨.tup vs, fun rest => by simp only [conR, h3], us, h1, h4⟩
  | .fn f a c, ds, u, ⟨us, ws, d1, d2, h1, h2, h3, h4⟩ => by
    obtain ⟨vs, h5, h6⟩ := conRs_sound hv h3
    obtain ⟨ys, h7, h8⟩ := conRs_sound hv h4
    exact ⟨.fn f vs ys, fun rest => by subst h2; simp only [conR, List.append_assoc, h5, h7], us, ws, h1, h6, h8⟩
theorem conRs_sound {rn : Nat → Nat} {r r' : RM} (hv : Via rn r r') : ∀ {l : List RSh} {ds : List Dyn} {us : List AV}, DRs r l ds us → ∃ vs, (∀ rest, conRs rn l (ds ++ rest) = some (vs, rest)) ∧ VRs r' vs us
  | [], ds, us, ⟨h1, h2⟩ => ⟨[], fun rest => by subst h1; rfl, h2⟩
  | x :: l, ds, us, ⟨d1, d2, u, us', h1, h2, h3, h4⟩ => by
    obtain ⟨v, h5, h6⟩ := conR_sound hv h3
    obtain ⟨vs, h7, h8⟩ := conRs_sound hv h4
    exact ⟨v :: vs, fun rest => by subst h1; simp only [conRs, List.append_assoc, h5, h7], u, us', h2, h6, h8⟩
theorem conCs_sound {rn : Nat → Nat} {r r' : RM} (hv : Via rn r r') : ∀ {l : List RSh} {ds : List Dyn} {us : List AV}, DCs r l ds us → ∃ vs, (∀ rest, conRs rn l (ds ++ rest) = some (vs, rest)) ∧ CRs r' vs us
  | [], ds, us, ⟨h1, h2⟩ => ⟨[], fun rest => by subst h1; rfl, h2⟩
  | x :: l, ds, us, ⟨d1, d2, u, us', h1, h2, h3, h4⟩ => by
    obtain ⟨v, h5, h6⟩ := conR_sound hv h3
    obtain ⟨vs, h7, h8⟩ := conCs_sound hv h4
    exact ⟨v :: vs, fun rest => by subst h1; simp only [conRs, List.append_assoc, h5, h7], u, us', h2, h6, h8⟩
end

/-- a block, by its data -/
def DB (r : RM) (H : Heap) (w : W) : CSh → List Dyn → Prop
  | .one sh, ds => w.virt = false ∧ ∃ u pre post, DR r sh ds u ∧ H.get w.hb = some (pre ++ (u.cells ++ post)) ∧ pre.length = w.base
  | .many t, ds => ∃ xs, ds = [⟨.lst t, xs⟩] ∧ BR r H w (.many t xs)

theorem BR.many_any {r r' : RM} {H : Heap} {w : W} {t : Ty} {xs : List t.den} (h : BR r H w (.many t xs)) : BR r' H w (.many t xs) := h

theorem conC_sound {rn : Nat → Nat} {r r' : RM} (hv : Via rn r r') {H : Heap} {w : W} {c : CSh} {ds : List Dyn} (h : DB r H w c ds) : ∃ k, (∀ rest, conC rn c (ds ++ rest) = some (k, rest)) ∧ BR r' H w k := by
  cases c with
  | one sh =>
    obtain ⟨h0, u, pre, post, h1, h2, h3⟩ := h
    obtain ⟨v, h4, h5⟩ := conR_sound hv h1
    exact ⟨.one v, fun rest => by simp only [conC, h4], h0, u, pre, post, h5, h2, h3⟩
  | many t =>
    obtain ⟨xs, rfl, h1⟩ := h
    exact ⟨.many t xs, fun rest => by simp only [List.singleton_append, conC, cast_self], h1.many_any⟩

/-! ### out of a state -/
/-- the block of a source -/
def srcW (r : RM) (z : Nat) : Src → Option W
  | .blk b => r b
  | .win b o l => match r b with
    | some w => some (bif w.virt then ⟨true, 0, 0, 0, w.size⟩ else ⟨false, w.hb, w.base + o * w.size, l, w.size⟩)
    | none => none
  | .nil => some ⟨true, 0, 0, 0, z⟩

def zOf (base : Nat) (l : List BSh) (k : Nat) : Nat :=
  match l[k - base]? with
  | some ⟨_, .many t⟩ => t.size
  | _ => 0

/-- the map of blocks behind: those below 'base' as they were, new ones by their sources -/
def newR (r : RM) (base : Nat) (l : List BSh) (M : Fnd) : RM := fun k =>
  if k < base then r k else match M.get k with
    | some src => srcW r (zOf base l k) src
    | none => none

def SubM (M M' : Fnd) : Prop := ∀ k x, M.get k = some x → M'.get k = some x
theorem SubM.refl (M : Fnd) : SubM M M := fun _ _ h => h
theorem SubM.trans {a b c : Fnd} (h : SubM a b) (k : SubM b c) : SubM a c := fun x y e => k x y (h x y e)

theorem addM_sub {M M' : Fnd} {k : Nat} {x : Src} (h : addM M k x = some M') : SubM M M' ∧ M'.get k = some x := by
  unfold addM at h
  split at h
  · rename_i hk
    obtain rfl := Option.some.inj h
    refine ⟨fun j y hj => ?_, by rw [Tr.get_set _ _ _ _ _ (by omega)]; simp⟩
    rw [Tr.get_set _ _ _ _ _ (by omega)]
    split
    · rename_i he
      subst he
      rw [hk] at hj
      simp at hj
    · exact hj
  · rename_i b hk
    split at h
    · obtain ⟨hb, h⟩ := bif_some' h
      obtain rfl := Option.some.inj h
      have := Nat.eq_of_beq_eq_true hb
      subst this
      exact ⟨SubM.refl _, hk⟩
    · simp at h
  · simp at h

theorem addB_sub {base : Nat} {M M' : Fnd} {k : Nat} {x : Src} (h : addB base M k x = some M') : SubM M M' ∧ ((k < base ∧ x = .blk k) ∨ (base ≤ k ∧ M'.get k = some x)) := by
  unfold addB at h
  rcases bif_or h with ⟨hb, h1⟩ | ⟨hb, h1⟩
  · have hb := blt_iff.1 hb
    split at h1
    · obtain ⟨he, h2⟩ := bif_some' h1
      obtain rfl := Option.some.inj h2
      have := Nat.eq_of_beq_eq_true he
      subst this
      exact ⟨SubM.refl _, .inl ⟨hb, rfl⟩⟩
    · simp at h1
  · obtain ⟨h2, h3⟩ := addM_sub h1
    refine ⟨h2, .inr ⟨?_, h3⟩⟩
    rcases Nat.lt_or_ge k base with hlt | hge
    · rw [blt_iff.2 hlt] at hb; simp at hb
    · exact hge

theorem newR_of {r : RM} {base : Nat} {l : List BSh} {M : Fnd} {k : Nat} {x : Src} (h : (k < base ∧ x = .blk k) ∨ (base ≤ k ∧ M.get k = some x)) : newR r base l M k = srcW r (zOf base l k) x := by
  unfold newR
  rcases h with ⟨h1, rfl⟩ | ⟨h1, h2⟩
  · rw [if_pos h1]; rfl
  · rw [if_neg (by omega), h2]

section
variable {P : Fr} {r : RM} {s : St} {e : Env} {H : Heap}

theorem aggS_tyAV {t : Ty} {v : SV} {u : AV} {x : t.den} (hg : (aggS v == t.agg) = true) (hx : asT t v = some x) (h : VR r v u) : u = tyAV t x := by
  have hg : aggS v = t.agg := by simpa using hg
  have hc := asT_sound hx h
  cases ha : t.agg with
  | true =>
    rw [ha] at hg
    rw [tyAV_agg _ _ ha, ← hc]
    cases v with
    | ty t' x' => simp only [VR] at h; subst h; simp only [aggS] at hg; rw [tyAV_agg _ _ hg]; rfl
    | segs l => obtain ⟨cs, rfl, _⟩ := h; rfl
    | _ => simp [aggS] at hg
  | false =>
    rw [ha] at hg
    obtain ⟨h1, h2⟩ := tyAV_one t x ha
    rw [h1] at hc
    have : u.cells = [u] := by
      cases v with
      | ty t' x' => simp only [VR] at h; subst h; simp only [aggS] at hg; obtain ⟨q1, q2⟩ := tyAV_one t' x' hg; rw [tyAV_cells, q1]
      | segs l => simp [aggS] at hg
      | tup l => obtain ⟨us, rfl, _⟩ := h; rfl
      | _ => exact (size_cells h rfl).1
    rw [this] at hc
    simpa using hc

mutual
theorem absR_sound (h : Rel P r s e H) {base : Nat} {bl : List BSh} : ∀ {sh : RSh} {v : SV} {M : Fnd} {a : Ab}, absR s base sh v M = some a → SubM M a.M ∧ ∀ {Mf : Fnd} {u : AV}, a.g = true → VR r v u → SubM a.M Mf → DR (newR r base bl Mf) sh a.ds u
  | .ty t, v, M, a, ha => by
    simp only [absR] at ha
    obtain ⟨hg, ha⟩ := bif_some' ha
    split at ha
    · rename_i x hx
      obtain rfl := Option.some.inj ha
      exact ⟨SubM.refl _, fun _ hv _ => ⟨x, rfl, aggS_tyAV hg hx hv⟩⟩
    · simp at ha
  | .nilp, v, M, a, ha => by
    cases v <;> simp only [absR] at ha <;> first | (simp at ha; done) | skip
    obtain rfl := Option.some.inj ha
    exact ⟨SubM.refl _, fun _ hv _ => ⟨rfl, hv⟩⟩
  | .nils, v, M, a, ha => by
    cases v <;> simp only [absR] at ha <;> first | (simp at ha; done) | skip
    obtain rfl := Option.some.inj ha
    exact ⟨SubM.refl _, fun _ hv _ => ⟨rfl, hv⟩⟩
  | .cst k n, v, M, a, ha => by
    simp only [absR] at ha
    split at ha
    · rename_i t x
      split at ha
      · rename_i y hy
        obtain ⟨hb, ha⟩ := bif_some' ha
        obtain rfl := Option.some.inj ha
        have hb' := of_decide_eq_true hb
        refine ⟨SubM.refl _, fun _ hv _ => ⟨rfl, ?_⟩⟩
        simp only [VR] at hv
        subst hv
        unfold castT at hy
        split at hy
        · rename_i e _
          subst e
          obtain rfl := Option.some.inj hy
          show AV.int k _ = AV.int k n
          rw [← hb']
        · simp at hy
      · simp at ha
    · simp at ha
  | .nilf, v, M, a, ha => by
    cases v <;> simp only [absR] at ha <;> first | (simp at ha; done) | skip
    obtain rfl := Option.some.inj ha
    exact ⟨SubM.refl _, fun _ hv _ => ⟨rfl, hv⟩⟩
  | .ptr k, v, M, a, ha => by
    cases v <;> simp only [absR] at ha <;> first | (simp at ha; done) | skip
    rename_i b o p
    obtain ⟨hb, ha⟩ := bif_some' ha
    simp only [Bool.and_eq_true, Nat.beq_eq, List.isEmpty_iff] at hb
    obtain ⟨rfl, rfl⟩ := hb
    split at ha
    · rename_i M' hM
      obtain rfl := Option.some.inj ha
      obtain ⟨h1, h2⟩ := addB_sub hM
      refine ⟨h1, fun {Mf u} _ hv hs => ⟨rfl, ?_⟩⟩
      obtain ⟨w, g1, g2⟩ := hv
      refine ⟨w, ?_, g2⟩
      rw [newR_of (x := .blk b) (by rcases h2 with h2 | h2; exact .inl h2; exact .inr ⟨h2.1, hs _ _ h2.2⟩)]
      exact g1
    · simp at ha
  | .sla k ex, v, M, a, ha => by
    simp only [absR] at ha
    split at ha
    · rename_i b ex'
      obtain ⟨hb, ha⟩ := bif_some' ha
      split at ha
      · rename_i M' hM
        obtain rfl := Option.some.inj ha
        obtain ⟨h1, h2⟩ := addB_sub hM
        refine ⟨h1, fun {Mf u} _ hv hs => ⟨rfl, ?_⟩⟩
        obtain ⟨w, g1, g2⟩ := hv
        refine ⟨w, ?_, ?_⟩
        · rw [newR_of (x := .blk b) (by rcases h2 with h2 | h2; exact .inl h2; exact .inr ⟨h2.1, hs _ _ h2.2⟩)]
          exact g1
        · rcases g2 with g2 | ⟨g2, c, g3, g4⟩
          · exact .inl g2
          · refine .inr ⟨g2, c, ?_, g4⟩
            cases ex <;> cases ex' <;> simp [leEx] at hb <;> first | exact g3 | exact .inl g3 | trivial
      · simp at ha
    · split at ha
      · rename_i M' hM
        obtain rfl := Option.some.inj ha
        obtain ⟨h1, h2⟩ := addB_sub hM
        refine ⟨h1, fun {Mf u} _ hv hs => ⟨rfl, ?_⟩⟩
        rcases h2 with h2 | h2
        · simp at h2
        · refine ⟨_, by rw [newR_of (x := .nil) (.inr ⟨h2.1, hs _ _ h2.2⟩)]; rfl, .inl ⟨rfl, hv, rfl⟩⟩
      · simp at ha
    · rename_i b o l c
      split at ha
      · rename_i M' hM
        obtain ⟨h1, h2⟩ := addB_sub hM
        have key : ∀ {Mf : Fnd} {u : AV} {ds : List Dyn}, ds = [] → VR r (.slw b o l c) u → SubM M' Mf → (∀ q, CpR l c q → CpR l ex.cp q) → DR (newR r base bl Mf) (.sla k ex) ds u := by
          intro Mf u ds hds hv hs hcp
          refine ⟨hds, ?_⟩
          rcases h2 with h2 | h2
          · simp at h2
          · obtain ⟨w, g1, g2, g3⟩ := hv
            have he : newR r base bl Mf k = srcW r (zOf base bl k) (.win b o l) := newR_of (.inr ⟨h2.1, hs _ _ h2.2⟩)
            simp only [srcW, g1] at he
            rcases g3 with ⟨g3, rfl⟩ | ⟨g3, q, g4, rfl⟩
            · rw [g3, cond_true] at he
              exact ⟨_, he, .inl ⟨rfl, rfl, rfl⟩⟩
            · rw [g3, cond_false] at he
              exact ⟨_, he, .inr ⟨rfl, q, hcp q g4, rfl⟩⟩
        split at ha
        · obtain rfl := Option.some.inj ha
          exact ⟨h1, fun _ hv hs => key rfl hv hs (fun q hq => by simp only [CpR] at hq; subst hq; cases ex <;> first | rfl | exact .inl rfl | trivial)⟩
        · cases ex <;> simp only at ha <;> first | (simp at ha; done) | skip
          · obtain rfl := Option.some.inj ha
            exact ⟨h1, fun _ hv hs => key rfl hv hs (fun q hq => hq)⟩
          · obtain rfl := Option.some.inj ha
            exact ⟨h1, fun _ hv hs => key rfl hv hs (fun q hq => trivial)⟩
        · rename_i c
          cases ex <;> simp only at ha <;> first | (simp at ha; done) | skip
          · obtain rfl := Option.some.inj ha
            refine ⟨h1, fun hg hv hs => key rfl hv hs (fun q hq => ?_)⟩
            have := of_decide_eq_true hg
            subst this
            exact .inr hq
          · obtain rfl := Option.some.inj ha
            exact ⟨h1, fun _ hv hs => key rfl hv hs (fun q hq => trivial)⟩
        · cases ex <;> simp only at ha <;> first | (simp at ha; done) | skip
          obtain rfl := Option.some.inj ha
          exact ⟨h1, fun _ hv hs => key rfl hv hs (fun q hq => trivial)⟩
      · simp at ha
    · simp at ha
  | .slw k, v, M, a, ha => by
    simp only [absR] at ha
    split at ha
    · rename_i b o l c
      split at ha
      · rename_i M' hM
        obtain rfl := Option.some.inj ha
        obtain ⟨h1, h2⟩ := addB_sub hM
        refine ⟨h1, fun {Mf u} _ hv hs => ⟨o, l, rfl, ?_⟩⟩
        obtain ⟨w, g1, g2, g3⟩ := hv
        refine ⟨w, ?_, g2, ?_⟩
        · rw [newR_of (x := .blk b) (by rcases h2 with h2 | h2; exact .inl h2; exact .inr ⟨h2.1, hs _ _ h2.2⟩)]
          exact g1
        · rcases g3 with g3 | ⟨g3, q, _, g5⟩
          · exact .inl g3
          · exact .inr ⟨g3, q, trivial, g5⟩
      · simp at ha
    · rename_i b ex
      split at ha
      · rename_i M' l hM hl
        obtain rfl := Option.some.inj ha
        obtain ⟨h1, h2⟩ := addB_sub hM
        refine ⟨h1, fun {Mf u} _ hv hs => ⟨0, l, rfl, ?_⟩⟩
        obtain ⟨h3, h4⟩ := lenS_sound h hv hl
        obtain ⟨w, g1, g3⟩ := hv
        refine ⟨w, ?_, ?_, ?_⟩
        · rw [newR_of (x := .blk b) (by rcases h2 with h2 | h2; exact .inl h2; exact .inr ⟨h2.1, hs _ _ h2.2⟩)]
          exact g1
        · rcases g3 with ⟨_, rfl, g4⟩ | ⟨_, q, _, rfl⟩
          · simp only [lenOf, Option.some.injEq] at h3; omega
          · simp only [lenOf, Option.some.injEq] at h3; omega
        · rcases g3 with ⟨g3, rfl, g4⟩ | ⟨g3, q, _, rfl⟩
          · exact .inl ⟨g3, rfl⟩
          · simp only [lenOf, Option.some.injEq] at h3
            exact .inr ⟨g3, q, trivial, by rw [h3, Nat.zero_mul, Nat.add_zero]⟩
      · simp at ha
    · simp at ha
  | .segs rs, v, M, a, ha => by
    simp only [absR] at ha
    obtain ⟨hg, ha⟩ := bif_some' ha
    obtain ⟨h1, _, h3⟩ := absRs_sound h ha
    refine ⟨h1, fun {Mf u} hgg hv hs => ?_⟩
    have hk := h3 hgg hv.flat hs
    refine ⟨u.cells, ?_, hk⟩
    cases v with
    | ty t x => simp only [VR] at hv; subst hv; simp only [aggS] at hg; rw [tyAV_agg _ _ hg]; rfl
    | segs l => obtain ⟨cs, rfl, _⟩ := hv; rfl
    | _ => simp [aggS] at hg
  | .tup rs, v, M, a, ha => by
    cases v <;> simp only [absR] at ha <;> first | (simp at ha; done) | skip
    obtain ⟨h1, h2, h3⟩ := absRs_sound h ha
    refine ⟨h1, fun {Mf u} hg hv hs => ?_⟩
    obtain ⟨us, rfl, hv⟩ := hv
    exact ⟨us, rfl, h2 hg hv hs⟩
  | .fn f x y, v, M, a, ha => by
    cases v <;> simp only [absR] at ha <;> first | (simp at ha; done) | skip
    obtain ⟨hf, ha⟩ := bif_some' ha
    split at ha
    · rename_i p hp
      split at ha
      · rename_i q hq
        obtain rfl := Option.some.inj ha
        obtain ⟨h1, h2, _⟩ := absRs_sound h hp
        obtain ⟨h3, h4, _⟩ := absRs_sound h hq
        refine ⟨h1.trans h3, fun {Mf u} hg hv hs => ?_⟩
        simp only [Bool.and_eq_true] at hg
        obtain ⟨us, ws, rfl, hv1, hv2⟩ := hv
        have := Nat.eq_of_beq_eq_true hf
        subst this
        exact ⟨us, ws, _, _, rfl, rfl, h2 hg.1 hv1 (h3.trans hs), h4 hg.2 hv2 hs⟩
      · simp at ha
    · simp at ha
theorem absRs_sound (h : Rel P r s e H) {base : Nat} {bl : List BSh} : ∀ {rs : List RSh} {vs : List SV} {M : Fnd} {a : Ab}, absRs s base rs vs M = some a → SubM M a.M ∧
    (∀ {Mf : Fnd} {us : List AV}, a.g = true → VRs r vs us → SubM a.M Mf → DRs (newR r base bl Mf) rs a.ds us) ∧
    (∀ {Mf : Fnd} {cs : List AV}, a.g = true → CRs r vs cs → SubM a.M Mf → DCs (newR r base bl Mf) rs a.ds cs)
  | [], vs, M, a, ha => by
    cases vs <;> simp only [absRs] at ha <;> first | (simp at ha; done) | skip
    obtain rfl := Option.some.inj ha
    exact ⟨SubM.refl _, fun _ hv _ => ⟨rfl, hv⟩, fun _ hv _ => ⟨rfl, hv⟩⟩
  | x :: rs, vs, M, a, ha => by
    cases vs <;> simp only [absRs] at ha <;> first | (simp at ha; done) | skip
    split at ha
    · rename_i p hp
      split at ha
      · rename_i q hq
        obtain rfl := Option.some.inj ha
        obtain ⟨h1, h2⟩ := absR_sound h hp
        obtain ⟨h3, h4, h5⟩ := absRs_sound h hq
        refine ⟨h1.trans h3, fun {Mf us} hg hv hs => ?_, fun {Mf us} hg hv hs => ?_⟩
        · simp only [Bool.and_eq_true] at hg
          obtain ⟨u, us', rfl, hv1, hv2⟩ := hv
          exact ⟨_, _, u, us', rfl, rfl, h2 hg.1 hv1 (h3.trans hs), h4 hg.2 hv2 hs⟩
        · simp only [Bool.and_eq_true] at hg
          obtain ⟨u, us', rfl, hv1, hv2⟩ := hv
          exact ⟨_, _, u, us', rfl, rfl, h2 hg.1 hv1 (h3.trans hs), h5 hg.2 hv2 hs⟩
      · simp at ha
    · simp at ha
end
end
end Go.Sh
