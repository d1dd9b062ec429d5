/- Contracts: what a body comes to by its shapes, the function does; and a call by its contract. No condition. -/
import Derived.Test.YtipdancojcdioaaShO
namespace Go.Sh
set_option linter.unusedVariables false
set_option linter.unusedSimpArgs false
open Go Go.Ev

/-- the blocks that a call is given -/
def BlksIn (r : RM) (H : Heap) : Nat → List BSh → List Dyn → Prop
  | _, [], ds => ds = []
  | k, b :: l, ds => ∃ d1 d2 w, ds = d1 ++ d2 ∧ r k = some w ∧ DB r H w b.c d1 ∧ (w.virt = false → w.hb < H.next ∧ (b.own = true → H.ro ≤ w.hb)) ∧ BlksIn r H (k + 1) l d2

structure InOk (r : RM) (H : Heap) (c : Sg) (x : c.inp) (us : List AV) : Prop where
  parts : ∃ da db, ofHL _ x = da ++ db ∧ DRs r c.args da us ∧ BlksIn r H 0 c.blks db
  dm : ∀ k w, r k = some w → k < c.blks.length
  ap : ∀ i j bi bj wi wj, i ≠ j → c.blks[i]? = some bi → c.blks[j]? = some bj → (bi.own = true ∨ bj.own = true) → r i = some wi → r j = some wj → wi.virt = false → wj.virt = false → wi.hb ≠ wj.hb
  rn : H.ro ≤ H.next

/-- a block of the call's own -/
def Mine (r : RM) (c : Sg) (x : Nat) : Prop := ∃ j b w, c.blks[j]? = some b ∧ b.own = true ∧ r j = some w ∧ w.virt = false ∧ w.hb = x

def OldsOut (q r : RM) (H : Heap) : List (Nat × CSh) → List Dyn → Prop
  | [], ds => ds = []
  | (b, c) :: l, ds => ∃ d1 d2 w, ds = d1 ++ d2 ∧ r b = some w ∧ DB q H w c d1 ∧ OldsOut q r H l d2

def NewsOut (q : RM) (H : Heap) (mine : Nat → Prop) (n0 : Nat) : Nat → List BSh → List Dyn → Prop
  | _, [], ds => ds = []
  | k, b :: l, ds => ∃ d1 d2 w, ds = d1 ++ d2 ∧ q k = some w ∧ DB q H w b.c d1 ∧ (w.virt = false → w.hb < H.next ∧ H.ro ≤ w.hb ∧ (mine w.hb ∨ n0 ≤ w.hb)) ∧ NewsOut q H mine n0 (k + 1) l d2

structure OutOk (r : RM) (H : Heap) (c : Sg) (y : c.res) (u : AV) (H' : Heap) (q : RM) : Prop where
  parts : ∃ d1 d2 d3, ofHL _ y = d1 ++ (d2 ++ d3) ∧ DRs q (c.out.regs.map (·.2)) d1 [u] ∧ OldsOut q r H' c.out.old d2 ∧ NewsOut q H' (Mine r c) H.next c.blks.length c.out.new d3
  ap1 : ∀ x ∈ c.out.old, ∀ i w w', i < c.out.new.length → r x.1 = some w → q (c.blks.length + i) = some w' → w.virt = false → w'.virt = false → w.hb ≠ w'.hb
  ap2 : ∀ i j w w', i ≠ j → i < c.out.new.length → j < c.out.new.length → q (c.blks.length + i) = some w → q (c.blks.length + j) = some w' → w.virt = false → w'.virt = false → w.hb ≠ w'.hb
  next : H.next ≤ H'.next
  ro : H'.ro = H.ro
  fr : ∀ x, x < H.next → ¬ Mine r c x → H'.get x = H.get x
  lg : ∃ l, H'.log = l ++ H.log ∧ ∀ x ∈ l, Mine r c x ∨ H.next ≤ x

def GoodC (T : Tab) (f : Nat) (c : Ctr) : Prop := ∀ N x y, c.fn N x = some y → ∀ (r : RM) (H : Heap) (us : List AV), InOk r H c.sg x us →
  ∃ n0 u H' q, (∀ n, n0 ≤ n → evF T n f us H = some (u, H')) ∧ OutOk r H c.sg y u H' q

/-! ### a body -/
theorem blksIn_con {r : RM} {H : Heap} : ∀ {l : List BSh} {k : Nat} {ds : List Dyn} {h : Tr Blk}, BlksIn r H k l ds → ∃ h', conBs id k l ds h = some h' ∧ (∀ m, (m < k ∨ k + l.length ≤ m) → h'.get m = h.get m) ∧
    ∀ i b, l[i]? = some b → ∃ c w, h'.get (k + i) = some ⟨b.own, c⟩ ∧ r (k + i) = some w ∧ BR r H w c ∧ (w.virt = false → w.hb < H.next ∧ (b.own = true → H.ro ≤ w.hb))
  | [], k, ds, h, hb => by
    simp only [BlksIn] at hb
    subst hb
    exact ⟨h, rfl, fun m _ => rfl, fun i b hi => by simp at hi⟩
  | b :: l, k, ds, h, hb => by
    obtain ⟨d1, d2, w, rfl, h2, h3, h4, h5⟩ := hb
    obtain ⟨cont, h6, h7⟩ := conC_sound (rn := id) (r' := r) (fun k w hk => hk) h3
    obtain ⟨h', h8, h9, h10⟩ := blksIn_con (h := h.set (k + 1) k (some ⟨b.own, cont⟩)) h5
    refine ⟨h', by simp only [conBs, h6]; exact h8, fun m hm => ?_, fun i b' hi => ?_⟩
    · simp only [List.length_cons] at hm
      rw [h9 m (by omega), Tr.get_set _ _ _ _ _ (by omega), if_neg (by omega)]
    · cases i with
      | zero =>
        simp only [List.getElem?_cons_zero, Option.some.injEq] at hi
        subst hi
        refine ⟨cont, w, ?_, h2, h7, h4⟩
        rw [Nat.add_zero, h9 k (by omega), Tr.get_set _ _ _ _ _ (by omega), if_pos rfl]
      | succ i =>
        simp only [List.getElem?_cons_succ] at hi
        have := h10 i b' hi
        rwa [show k + 1 + i = k + (i + 1) by omega] at this

theorem lk_paramsS {r : RM} : ∀ {vs : List SV} {us : List AV} {n t : Nat} {v : SV}, VRs r vs us → (paramsS n vs).get t = some v → ∃ u, lk (params n us) t = some u ∧ VR r v u
  | [], us, n, t, v, h, hg => by simp [paramsS, Tr.get] at hg
  | x :: vs, us, n, t, v, h, hg => by
    obtain ⟨u, us', rfl, h1, h2⟩ := h
    simp only [paramsS] at hg
    rw [Tr.get_set _ _ _ _ _ (by omega)] at hg
    simp only [params, lk]
    rw [Tr.get_set _ _ _ _ _ (by omega)]
    split at hg
    · rename_i hn
      obtain rfl := Option.some.inj hg
      rw [if_pos hn]
      exact ⟨u, rfl, h1⟩
    · rename_i hn
      rw [if_neg hn]
      exact lk_paramsS h2 hg

section
variable {ρ : Type} {P : Fr} {r : RM} {s : St} {e : Env} {H : Heap}

theorem resS_sound (h : Rel P r s e H) : ∀ {rs : List (Nat × Option (Nat × Bool))} {κ : List SV → Option ρ} {y : ρ}, resS s rs κ = some y → ∃ vs us, resOf e H rs = some us ∧ VRs r vs us ∧ κ vs = some y
  | [], κ, y, hk => ⟨[], [], rfl, rfl, hk⟩
  | (t, c) :: rs, κ, y, hk => by
    simp only [resS] at hk
    obtain ⟨v, hv, hk1⟩ := orNone_some hk
    obtain ⟨u, h1, h2⟩ := h.er t v hv
    cases c with
    | none =>
      simp only at hk1
      obtain ⟨vs, us, h3, h4, h5⟩ := resS_sound h hk1
      exact ⟨v :: vs, u :: us, by simp only [resOf, h1, h3], ⟨u, us, rfl, h2, h4⟩, h5⟩
    | some c =>
      obtain ⟨n, g⟩ := c
      simp only at hk1
      obtain ⟨hb, off, rfl, cs, h3, u2, x2, h4, h5, h6⟩ := loadS_sound h h2 hk1
      obtain ⟨vs, us, h7, h8, h9⟩ := resS_sound h h5
      refine ⟨x2 :: vs, u2 :: us, ?_, ⟨u2, us, rfl, h4, h8⟩, h9⟩
      simp only [resOf, h1, h3]
      cases g with
      | true => simp only [cond_true] at h6 ⊢; rw [h6] at *; simp only [h7]
      | false => simp only [cond_false] at h6 ⊢; rw [h6]; simp only [h7]

theorem single_sound {vs : List SV} {us : List AV} (h : VRs r vs us) : VR r (singleS vs) (single us) := by
  cases vs with
  | nil => simp only [VRs] at h; subst h; exact ⟨[], rfl, rfl⟩
  | cons v vs =>
    obtain ⟨u, us', rfl, h1, h2⟩ := h
    cases vs with
    | nil => simp only [VRs] at h2; subst h2; exact h1
    | cons v' vs =>
      obtain ⟨u', us'', rfl, h3, h4⟩ := h2
      exact ⟨_, rfl, u, _, rfl, h1, u', us'', rfl, h3, h4⟩

theorem oldsOut_of {q : RM} {r0 : RM} (hx : ∀ b w, r0 b = some w → r b = some w) : ∀ {l : List (Nat × CSh)} {ds : List Dyn}, (∀ x ∈ l, ∃ w, r0 x.1 = some w) → OldsOk q r s H l ds → OldsOut q r0 H l ds
  | [], ds, _, h => h
  | (b, c) :: l, ds, hd, ⟨d1, d2, w, k, h1, h2, h3, h4, h5, h6⟩ => by
    obtain ⟨w0, hw0⟩ := hd (b, c) (List.mem_cons_self ..)
    have := hx b w0 hw0
    rw [h2] at this
    obtain rfl := Option.some.inj this
    exact ⟨d1, d2, w, h1, hw0, h5, oldsOut_of hx (fun x hx => hd x (List.mem_cons_of_mem _ hx)) h6⟩

theorem newsOut_of {q : RM} {M : Fnd} {mine : Nat → Prop} {n0 : Nat} : ∀ {l : List BSh} {k : Nat} {ds : List Dyn}, (∀ i, i < l.length → ∀ (w : W), q (k + i) = some w → w.virt = false → w.hb < H.next ∧ H.ro ≤ w.hb ∧ (mine w.hb ∨ n0 ≤ w.hb)) → NewsOk q r s H M k l ds → NewsOut q H mine n0 k l ds
  | [], k, ds, _, h => h
  | b :: l, k, ds, hb, ⟨d1, d2, w, src, h1, h2, h3, h4, h5, h6⟩ => by
    refine ⟨d1, d2, w, h1, h3, h4, hb 0 (by simp) w (by simpa using h3), newsOut_of (fun i hi w hw hv => ?_) h6⟩
    exact hb (i + 1) (by simp; omega) w (by rw [← hw]; congr 1; omega) hv

end

/-- the body of a function -/
theorem body_out {cf : Nat → CallF} {N : Nat} {callS : ∀ {ρ : Type}, CallS ρ} (hcs : ∀ {ρ : Type}, CallSnd cf (callS (ρ := ρ))) {F : AFunc} {nt : Note} {c : Sg} (hok : c.ok = true) {x : c.inp} {y : c.res}
    (hf : (match startS c x with
      | some s => bodyS N callS F nt s fun v s' => toSh s c.out { s' with env := Tr.nil.set 1 0 (some v) } fun y => some y
      | none => none) = some y)
    {r : RM} {H : Heap} {us : List AV} (hi : InOk r H c x us) : ∃ n0 u H' q, (∀ n, n0 ≤ n → evBody (cf n) n F us H = some (u, H')) ∧ OutOk r H c y u H' q := by
  obtain ⟨da, db, hx, hargs, hblks⟩ := hi.parts
  obtain ⟨svs, g1, g2⟩ := conRs_sound (rn := id) (r' := r) (fun k w hk => hk) hargs
  obtain ⟨hp, g3, g4, g5⟩ := blksIn_con (h := .nil) hblks
  have hs : startS c x = some ⟨paramsS 0 svs, hp, c.blks.length, 0, []⟩ := by
    unfold startS
    rw [hx, g1]
    simp only [g3]
  rw [hs] at hf
  simp only at hf
  have hblk : ∀ b k, hp.get b = some k → ∃ bs, c.blks[b]? = some bs ∧ k.own = bs.own ∧ ∃ w, r b = some w ∧ BR r H w k.c ∧ (w.virt = false → w.hb < H.next ∧ (bs.own = true → H.ro ≤ w.hb)) := by
    intro b k hk
    rcases Nat.lt_or_ge b c.blks.length with hb | hb
    · obtain ⟨cont, w, a1, a2, a3, a4⟩ := g5 b c.blks[b] (List.getElem?_eq_getElem hb)
      rw [Nat.zero_add] at a1 a2
      rw [a1] at hk
      obtain rfl := Option.some.inj hk
      exact ⟨_, List.getElem?_eq_getElem hb, rfl, w, a2, a3, a4⟩
    · rw [g4 b (by omega)] at hk
      simp [Tr.get] at hk
  have hrel : Rel ⟨H, Mine r c, 0, H.log⟩ r ⟨paramsS 0 svs, hp, c.blks.length, 0, []⟩ (params 0 us) H := by
    refine ⟨fun t v hv => lk_paramsS g2 hv, fun b k hk => ?_, fun b w hw => hi.dm b w hw, fun b b' k k' w w' hne h1 h2 hown hw hw' hv hv' => ?_, Nat.le_refl _, rfl, fun x _ _ => rfl, Nat.zero_le _, hi.rn, ⟨[], rfl, fun x hx => by simp at hx, fun b k w _ _ _ hlt => by simp at hlt⟩⟩
    · obtain ⟨bs, h1, h2, w, h3, h4, h5⟩ := hblk b k hk
      have hlt : b < c.blks.length := hi.dm b w h3
      exact ⟨w, h3, h4, hlt, fun hv => ⟨(h5 hv).1, fun ho => ⟨(h5 hv).2 (h2 ▸ ho), .inl ⟨b, bs, w, h1, h2 ▸ ho, h3, hv, rfl⟩⟩⟩⟩
    · obtain ⟨bs, a1, a2, _⟩ := hblk b k h1
      obtain ⟨bs', b1, b2, _⟩ := hblk b' k' h2
      exact hi.ap b b' bs bs' w w' hne a1 b1 (by rw [← a2, ← b2]; exact hown) hw hw' hv hv'
  unfold bodyS at hf
  obtain ⟨xx, e', H', s', r', ⟨n0, a1⟩, a2, a3, a4, a5, a6⟩ := den_sound hcs hrel hf
  have hfin : ∀ {κ : List SV → Option c.res}, (κ = fun vs => toSh ⟨paramsS 0 svs, hp, c.blks.length, 0, []⟩ c.out { s' with env := Tr.nil.set 1 0 (some (singleS vs)) } fun y => some y) → resS s' F.results κ = some y →
      ∃ us', resOf e' H' F.results = some us' ∧ ∃ q, OutOk r H c y (single us') H' q := by
    rintro κ rfl hr
    obtain ⟨vs, us', b1, b2, b3⟩ := resS_sound a2 hr
    refine ⟨us', b1, ?_⟩
    obtain ⟨z, c1, c2⟩ := toSh_some b3
    obtain rfl := Option.some.inj c2
    have hv := single_sound b2
    have hrel2 : Rel ⟨H, Mine r c, 0, H.log⟩ r' { s' with env := Tr.nil.set 1 0 (some (singleS vs)) } (Tr.nil.set 1 0 (some (single us'))) H' := by
      refine ⟨fun t v ht => ?_, a2.br, a2.dm, a2.ap, a2.nx, a2.ro, a2.fr, a2.st, a2.rn, a2.lg⟩
      rw [Tr.get_set _ _ _ _ _ (by omega)] at ht
      split at ht
      · rename_i h0
        obtain rfl := Option.some.inj ht
        subst h0
        exact ⟨_, by simp only [lk]; rw [Tr.get_set _ _ _ _ _ (by omega), if_pos rfl], hv⟩
      · simp [Tr.get] at ht
    have hrel0 : Rel ⟨H, Mine r c, 0, H.log⟩ r ⟨Tr.nil, hp, c.blks.length, 0, []⟩ (Tr.nil.set 1 0 (some (single us'))) H :=
      ⟨fun t v ht => by simp [Tr.get] at ht, hrel.br, hrel.dm, hrel.ap, hrel.nx, hrel.ro, hrel.fr, hrel.st, hrel.rn, hrel.lg⟩
    -- the same shape, seen from the start without registers
    have habs : absS ⟨Tr.nil, hp, c.blks.length, 0, []⟩ { s' with env := Tr.nil.set 1 0 (some (singleS vs)) } c.out = some (true, z) := c1
    have hkp0 : Kp ⟨Tr.nil, hp, c.blks.length, 0, []⟩ { s' with env := Tr.nil.set 1 0 (some (singleS vs)) } := ⟨a4.next, a4.start, a4.log⟩
    obtain ⟨s1, q, d1, d2, d3, d4, ⟨M, d5⟩, d6, d7⟩ := join_sound (kill := []) hrel0 hrel2 a3 hkp0 (fun t _ => rfl) habs
    obtain ⟨p1, p2, p3, ur, e1, e2, e3, e4, e5⟩ := d5.parts
    unfold Sg.ok at hok
    simp only [Bool.and_eq_true, Nat.beq_eq] at hok
    obtain ⟨⟨⟨⟨ok1, ok2⟩, ok3⟩, _⟩, ok4⟩ := hok
    have hone : ∀ (i : Nat) (b : BSh), c.out.new[i]? = some b → b.own = true := fun i b hb => List.all_eq_true.1 ok2 b (List.mem_of_getElem? hb)
    have hur : ur = [single us'] := by
      cases hreg : c.out.regs with
      | nil => rw [hreg] at ok3; simp at ok3
      | cons g gs =>
        cases gs with
        | cons _ _ => rw [hreg] at ok3; simp at ok3
        | nil =>
          rw [hreg] at e2
          obtain ⟨u0, us0, rfl, k1, k2⟩ := e2
          simp only [RegsAre] at k2
          subst k2
          simp only [lk] at k1
          rw [Tr.get_set _ _ _ _ _ (by omega)] at k1
          split at k1
          · obtain rfl := Option.some.inj k1; rfl
          · simp [Tr.get] at k1
    subst hur
    have hnewW : ∀ i, i < c.out.new.length → ∀ w, q (c.blks.length + i) = some w → w.virt = false → w.hb < H'.next ∧ H'.ro ≤ w.hb ∧ (Mine r c w.hb ∨ H.next ≤ w.hb) := by
      intro i hi w hw hv
      obtain ⟨cc, hcc⟩ := d6 i c.out.new[i] (List.getElem?_eq_getElem hi)
      obtain ⟨w', k1, k2, k3, k4⟩ := d2.br _ _ hcc
      have hw' : q (c.blks.length + i) = some w' := k1
      rw [hw] at hw'
      obtain rfl := Option.some.inj hw'
      obtain ⟨k5, k6⟩ := k4 hv
      obtain ⟨k7, k8⟩ := k6 (hone i _ (List.getElem?_eq_getElem hi))
      exact ⟨k5, k7, k8⟩
    have hold0 : ∀ x ∈ c.out.old, ∃ w, r x.1 = some w := by
      intro x hx
      have hb : x.1 < c.blks.length := d5.below x.1 (List.mem_append.2 (.inl (List.mem_map.2 ⟨x, hx, rfl⟩)))
      obtain ⟨_, w, _, k2, _⟩ := g5 x.1 c.blks[x.1] (List.getElem?_eq_getElem hb)
      rw [Nat.zero_add] at k2
      exact ⟨w, k2⟩
    refine ⟨q, ⟨⟨p1, p2, p3, e1, e3, oldsOut_of a3 hold0 e4, newsOut_of hnewW e5⟩, ?_, ?_, a2.nx, a2.ro, a2.fr, ?_⟩⟩
    · intro x hx i w w' hi hw hw' hv hv'
      obtain ⟨cc, hcc⟩ := d6 i c.out.new[i] (List.getElem?_eq_getElem hi)
      obtain ⟨cx, hcx⟩ := d7 x hx
      have hb : x.1 < c.blks.length := d5.below x.1 (List.mem_append.2 (.inl (List.mem_map.2 ⟨x, hx, rfl⟩)))
      exact d2.ap x.1 (c.blks.length + i) _ _ w w' (by omega) hcx hcc (.inl rfl) (d3 _ _ hw) hw' hv hv'
    · intro i j w w' hij hi hj hw hw' hv hv'
      obtain ⟨ci, hci⟩ := d6 i c.out.new[i] (List.getElem?_eq_getElem hi)
      obtain ⟨cj, hcj⟩ := d6 j c.out.new[j] (List.getElem?_eq_getElem hj)
      exact d2.ap (c.blks.length + i) (c.blks.length + j) _ _ w w' (by omega) hci hcj (.inl (hone i _ (List.getElem?_eq_getElem hi))) hw hw' hv hv'
    · obtain ⟨l, k1, k2, _⟩ := a2.lg
      exact ⟨l, k1, k2⟩
  cases xx with
  | exit id => simp at a6
  | normal =>
    simp only at a6
    obtain ⟨us', b1, q, b2⟩ := hfin rfl a6
    exact ⟨n0, _, H', q, fun n hn => by simp only [evBody, a1 n hn, b1], b2⟩
  | ret =>
    simp only at a6
    obtain ⟨us', b1, q, b2⟩ := hfin rfl a6
    exact ⟨n0, _, H', q, fun n hn => by simp only [evBody, a1 n hn, b1], b2⟩

end Go.Sh
