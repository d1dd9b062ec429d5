/- Contracts of functions by how they are called, and a call by a contract. No condition. -/
import Derived.Test.YtipdancojcdioaaShP
namespace Go.Sh
set_option linter.unusedVariables false
set_option linter.unusedSimpArgs false
open Go Go.Ev

def GoodK (T : Tab) (K : CTab) : Prop := ∀ f svs c, K f svs = some c → GoodC T f c ∧ c.sg.ok = true

section
variable {ρ : Type} {P : Fr} {r : RM} {s : St} {e : Env} {H : Heap}

theorem blksIn_of {M : Fnd} {q : RM} (hb : ∀ b k w, s.heap.get b = some k → r b = some w → w.virt = false → w.hb < H.next ∧ (k.own = true → H.ro ≤ w.hb)) :
    ∀ {l : List BSh} {k : Nat} {ds : List Dyn}, NewsOk q r s H M k l ds → BlksIn q H k l ds
  | [], k, ds, h => h
  | b :: l, k, ds, ⟨d1, d2, w, src, h1, h2, h3, h4, h5, h6⟩ => by
    refine ⟨d1, d2, w, h1, h3, h4, fun hv => ?_, blksIn_of hb h6⟩
    rcases h5 with h5 | ⟨c, kc, w0, _, g2, g3, g4, g5, _, g7⟩
    · rw [hv] at h5; simp at h5
    · obtain ⟨a1, a2⟩ := hb c kc w0 g2 g4 g5
      rw [g7]
      exact ⟨a1, fun ho => a2 (g3 ho)⟩

theorem newsOk_get {M : Fnd} {q : RM} : ∀ {l : List BSh} {k : Nat} {ds : List Dyn}, NewsOk q r s H M k l ds → ∀ i b, l[i]? = some b → ∃ w src, q (k + i) = some w ∧ M.get (k + i) = some src ∧ Orig r s b.own src w
  | [], k, ds, h, i, b, hi => by simp at hi
  | b :: l, k, ds, ⟨d1, d2, w, src, h1, h2, h3, h4, h5, h6⟩, i, b', hi => by
    cases i with
    | zero =>
      simp only [List.getElem?_cons_zero, Option.some.injEq] at hi
      subst hi
      exact ⟨w, src, h3, h2, h5⟩
    | succ i =>
      simp only [List.getElem?_cons_succ] at hi
      have := newsOk_get h6 i b' hi
      rwa [show k + 1 + i = k + (i + 1) by omega] at this

/-- blocks told, under a caller's numbers -/
theorem conOld_out {rn : Nat → Nat} {q rT r0 : RM} (hv : Via rn q rT) : ∀ {l : List (Nat × CSh)} {ds : List Dyn} {h : Tr Blk}, OldsOut q r0 H l ds → (l.map fun x => rn x.1).Nodup →
    ∃ h', (∀ rest, conOld rn l (ds ++ rest) h = some (h', rest)) ∧ (∀ m, (∀ x ∈ l, m ≠ rn x.1) → h'.get m = h.get m) ∧
      ∀ x ∈ l, ∃ c w, h'.get (rn x.1) = some ⟨true, c⟩ ∧ r0 x.1 = some w ∧ BR rT H w c
  | [], ds, h, ho, _ => by
    simp only [OldsOut] at ho
    subst ho
    exact ⟨h, fun rest => rfl, fun m _ => rfl, fun x hx => by simp at hx⟩
  | (b, c) :: l, ds, h, ho, hn => by
    obtain ⟨d1, d2, w, rfl, h1, h4, h5⟩ := ho
    obtain ⟨cont, h6, h7⟩ := conC_sound hv h4
    rw [List.map_cons, List.nodup_cons] at hn
    obtain ⟨h', h8, h9, h10⟩ := conOld_out hv (h := h.set (rn b + 1) (rn b) (some ⟨true, cont⟩)) h5 hn.2
    refine ⟨h', fun rest => by simp only [conOld, List.append_assoc, h6, h8], fun m hm => ?_, fun x hx => ?_⟩
    · rw [h9 m (fun x hx => hm x (List.mem_cons_of_mem _ hx)), Tr.get_set _ _ _ _ _ (by omega), if_neg (hm _ (List.mem_cons_self ..))]
    · rcases List.mem_cons.1 hx with rfl | hx
      · refine ⟨cont, w, ?_, h1, h7⟩
        rw [h9 (rn b) (fun x hx he => hn.1 (List.mem_map.2 ⟨x, hx, he.symm⟩)), Tr.get_set _ _ _ _ _ (by omega), if_pos rfl]
      · exact h10 x hx

theorem conBs_out {rn : Nat → Nat} {q rT : RM} {mine : Nat → Prop} {n0 : Nat} (hv : Via rn q rT) : ∀ {l : List BSh} {k : Nat} {ds : List Dyn} {h : Tr Blk}, NewsOut q H mine n0 k l ds → (∀ i j, i < l.length → j < l.length → rn (k + i) = rn (k + j) → i = j) →
    ∃ h', conBs rn k l ds h = some h' ∧ (∀ m, (∀ i, i < l.length → m ≠ rn (k + i)) → h'.get m = h.get m) ∧
      ∀ i b, l[i]? = some b → ∃ c w, h'.get (rn (k + i)) = some ⟨b.own, c⟩ ∧ q (k + i) = some w ∧ BR rT H w c ∧ (w.virt = false → w.hb < H.next ∧ H.ro ≤ w.hb ∧ (mine w.hb ∨ n0 ≤ w.hb))
  | [], k, ds, h, hn, _ => by
    simp only [NewsOut] at hn
    subst hn
    exact ⟨h, rfl, fun m _ => rfl, fun i b hi => by simp at hi⟩
  | b :: l, k, ds, h, hn, hinj => by
    obtain ⟨d1, d2, w, rfl, h2, h3, h4, h5⟩ := hn
    obtain ⟨cont, h6, h7⟩ := conC_sound hv h3
    have hsh : ∀ i, k + 1 + i = k + (i + 1) := fun i => by omega
    obtain ⟨h', h8, h9, h10⟩ := conBs_out hv (h := h.set (rn k + 1) (rn k) (some ⟨b.own, cont⟩)) h5 (fun i j hi hj he => by
      rw [hsh, hsh] at he
      have := hinj (i + 1) (j + 1) (by simp; omega) (by simp; omega) he
      omega)
    refine ⟨h', by simp only [conBs, h6, h8], fun m hm => ?_, fun i b' hi => ?_⟩
    · rw [h9 m (fun i hi => by rw [hsh]; exact hm (i + 1) (by simp; omega)), Tr.get_set _ _ _ _ _ (by omega), if_neg (by have := hm 0 (by simp); simpa using this)]
    · cases i with
      | zero =>
        simp only [List.getElem?_cons_zero, Option.some.injEq] at hi
        subst hi
        refine ⟨cont, w, ?_, h2, h7, h4⟩
        rw [Nat.add_zero, h9 (rn k) (fun i hi he => by
          rw [hsh] at he
          have := hinj 0 (i + 1) (by simp) (by simp; omega) (by simpa using he)
          omega), Tr.get_set _ _ _ _ _ (by omega), if_pos rfl]
      | succ i =>
        simp only [List.getElem?_cons_succ] at hi
        have := h10 i b' hi
        rwa [hsh] at this

theorem OldsOut.on {q q' r0 : RM} : ∀ {l : List (Nat × CSh)} {ds : List Dyn}, (∀ k ∈ refsO l, ∀ w, q k = some w → q' k = some w) → OldsOut q r0 H l ds → OldsOut q' r0 H l ds
  | [], ds, _, k => k
  | (b, c) :: l, ds, h, ⟨d1, d2, w, h1, h2, h3, h4⟩ =>
    ⟨d1, d2, w, h1, h2, DB.on (fun k hk => h k (List.mem_append.2 (.inl hk))) h3, OldsOut.on (fun k hk => h k (List.mem_append.2 (.inr hk))) h4⟩

theorem NewsOut.on {q q' : RM} {mine : Nat → Prop} {n0 : Nat} : ∀ {l : List BSh} {k : Nat} {ds : List Dyn}, (∀ k ∈ refsB l, ∀ w, q k = some w → q' k = some w) → (∀ i, i < l.length → q' (k + i) = q (k + i)) → NewsOut q H mine n0 k l ds → NewsOut q' H mine n0 k l ds
  | [], k, ds, _, _, g => g
  | b :: l, k, ds, h, hk, ⟨d1, d2, w, h1, h2, h3, h4, h5⟩ => by
    refine ⟨d1, d2, w, h1, ?_, DB.on (fun k hk => h k (List.mem_append.2 (.inl hk))) h3, h4, NewsOut.on (fun k hk => h k (List.mem_append.2 (.inr hk))) (fun i hi => ?_) h5⟩
    · have := hk 0 (by simp)
      rw [Nat.add_zero] at this
      rw [this]; exact h2
    · have := hk (i + 1) (by simp; omega)
      rwa [show k + (i + 1) = k + 1 + i by omega] at this

theorem lentOk_get {blks : List BSh} {M : Fnd} : ∀ {l : List Nat}, lentOk blks M l = true → ∀ j ∈ l, ∃ b c, blks[j]? = some b ∧ b.own = true ∧ M.get j = some (.blk c)
  | [], _, j, hj => by simp at hj
  | x :: l, h, j, hj => by
    simp only [lentOk, Bool.and_eq_true] at h
    rcases List.mem_cons.1 hj with rfl | hj
    · have h1 := h.1
      split at h1
      · rename_i b c hb hc
        exact ⟨b, c, hb, h1, hc⟩
      · simp at h1
    · exact lentOk_get h.2 j hj

theorem absC_sub (h : Rel P r s e H) {base : Nat} {own : Bool} {c : CSh} {src : Src} {M : Fnd} {a : Ab} (ha : absC s base own c src M = some a) : SubM M a.M := by
  unfold absC at ha
  split at ha
  · split at ha
    · obtain ⟨ho, ha⟩ := bif_some' ha
      exact (absR_sound (bl := []) h ha).1
    · simp at ha
  · split at ha
    · obtain ⟨ho, ha⟩ := bif_some' ha
      split at ha
      · obtain rfl := Option.some.inj ha; exact SubM.refl _
      · simp at ha
    · simp at ha
  · split at ha
    · obtain ⟨ho, ha⟩ := bif_some' ha
      split at ha
      · obtain rfl := Option.some.inj ha; exact SubM.refl _
      · simp at ha
    · simp at ha
  · obtain ⟨ho, ha⟩ := bif_some' ha
    obtain rfl := Option.some.inj ha; exact SubM.refl _
  · simp at ha

theorem absBs_sub (h : Rel P r s e H) {base : Nat} : ∀ {l : List BSh} {k : Nat} {M : Fnd} {a : Ab}, absBs s base k l M = some a → SubM M a.M
  | [], k, M, a, ha => by
    simp only [absBs, Option.some.injEq] at ha
    subst ha
    exact SubM.refl _
  | b0 :: l, k, M, a, ha => by
    simp only [absBs] at ha
    split at ha
    · split at ha
      · rename_i p hp
        split at ha
        · rename_i q hq
          obtain rfl := Option.some.inj ha
          exact (absC_sub h hp).trans (absBs_sub (a := q) h hq)
        · simp at ha
      · simp at ha
    · simp at ha

/-- whole blocks are there -/
theorem absBs_pres (h : Rel P r s e H) {base : Nat} : ∀ {l : List BSh} {k : Nat} {M : Fnd} {a : Ab}, absBs s base k l M = some a → MOk r M → ∀ {Mf : Fnd}, SubM a.M Mf → ∀ i b src d, l[i]? = some b → Mf.get (k + i) = some src → srcB src = some d → ∃ kd, s.heap.get d = some kd ∧ (b.own = true → kd.own = true)
  | [], k, M, a, ha, hm, Mf, hs, i, b, sr, d, hi, hd, hsd => by simp at hi
  | b0 :: l, k, M, a, ha, hm, Mf, hs, i, b, sr, d, hi, hd, hsd => by
    simp only [absBs] at ha
    split at ha
    · rename_i src hsrc
      split at ha
      · rename_i p hp
        split at ha
        · rename_i q hq
          obtain rfl := Option.some.inj ha
          obtain ⟨h1, h2, _⟩ := absC_sound (bl := []) h hp hm (fun b o l he => by subst he; exact hm k b o l hsrc)
          have h3 : SubM p.M q.M := absBs_sub (a := q) h hq
          cases i with
          | zero =>
            simp only [List.getElem?_cons_zero, Option.some.injEq] at hi
            subst hi
            have := hs _ _ (h3 _ _ (h1 _ _ hsrc))
            rw [Nat.add_zero, this] at hd
            obtain rfl := Option.some.inj hd
            unfold absC at hp
            split at hp
            · split at hp
              · rename_i own' v hk
                obtain ⟨ho, _⟩ := bif_some' hp
                simp only [srcB, Option.some.injEq] at hsd
                subst hsd
                exact ⟨_, hk, own_imp ho⟩
              · simp at hp
            · split at hp
              · rename_i own' t' xs hk
                obtain ⟨ho, _⟩ := bif_some' hp
                simp only [srcB, Option.some.injEq] at hsd
                subst hsd
                exact ⟨_, hk, own_imp ho⟩
              · simp at hp
            · split at hp
              · rename_i own' t' xs hk
                obtain ⟨ho, _⟩ := bif_some' hp
                simp only [srcB, Option.some.injEq] at hsd
                subst hsd
                exact ⟨_, hk, own_imp ho⟩
              · simp at hp
            · simp [srcB] at hsd
            · simp at hp
          | succ i =>
            simp only [List.getElem?_cons_succ] at hi
            exact absBs_pres h hq h2 hs i b sr d hi (by rw [← hd]; congr 1; omega) hsd
        · simp at ha
      · simp at ha
    · simp at ha

/-- a call by a contract -/
theorem callC_sound {cf : Nat → CallF} {f : Nat} {c : Sg} {fn : Nat → c.inp → Option c.res}
    (hg : ∀ N x y, fn N x = some y → ∀ (r : RM) (H : Heap) (us : List AV), InOk r H c x us → ∃ n0 u H' q, (∀ n, n0 ≤ n → cf n f us H = some (u, H')) ∧ OutOk r H c y u H' q) (hok : c.ok = true)
    (h : Rel P r s e H) {N : Nat} {svs : List SV} {us : List AV} {κ : SV → St → Option ρ} {y : ρ} (hus : VRs r svs us) (hk : callC N c fn svs s κ = some y) :
    ∃ n0 u H' v s' r', (∀ n, n0 ≤ n → cf n f us H = some (u, H')) ∧ Rel P r' s' e H' ∧ VR r' v u ∧ Ext r r' ∧ Kp s s' ∧ s'.env = s.env ∧ κ v s' = some y := by
  unfold callC at hk
  split at hk
  · simp at hk
  rename_i x hx
  split at hk
  · simp at hk
  rename_i z hz
  obtain ⟨hb, hk1⟩ := bif_some' hk
  clear hk
  simp only [Bool.and_eq_true] at hb
  obtain ⟨⟨hrefs, hap⟩, hlent⟩ := hb
  split at hk1
  rotate_left
  · simp at hk1
  rename_i hh hhl
  obtain ⟨hgg, hk2⟩ := chk_some hk1
  clear hk1
  simp only [Bool.and_eq_true] at hgg
  obtain ⟨g1, g2⟩ := hgg
  unfold bindS at hk2
  split at hk2
  rotate_left
  · simp at hk2
  rename_i yc hyc
  -- what the call is given
  obtain ⟨a1, a2, _⟩ := absRs_sound (bl := c.blks) h hx
  have m1 := (absRs_mok hx).1 hus (MOk.nil r)
  obtain ⟨c1, c2, c3⟩ := absBs_sound (bl := c.blks) (base := 0) h (Nat.le_refl _) (by simp) hz m1
  let rin : RM := fun k => if k < c.blks.length then newR r 0 c.blks z.M k else none
  have hrl : ∀ k ∈ refsL c.args ++ refsB c.blks, k < c.blks.length := fun k hk => blt_iff.1 (List.all_eq_true.1 hrefs k hk)
  have hon : ∀ l : List Nat, (∀ k ∈ l, k ∈ refsL c.args ++ refsB c.blks) → ∀ k ∈ l, ∀ w, newR r 0 c.blks z.M k = some w → rin k = some w :=
    fun l hl k hk w hw => by show (if k < c.blks.length then _ else none) = _; rw [if_pos (hrl k (hl k hk))]; exact hw
  have hnews : NewsOk rin r s H z.M 0 c.blks z.ds := NewsOk.on (hon _ fun k hk => by simp [hk]) (fun i hi => if_pos (by omega)) (c3 g2 (SubM.refl _))
  have hargs : DRs rin c.args x.ds us := DRs.on (hon _ fun k hk => by simp [hk]) (a2 g1 hus c1)
  have hsb : ∀ b k w, s.heap.get b = some k → r b = some w → w.virt = false → w.hb < H.next ∧ (k.own = true → H.ro ≤ w.hb) := by
    intro b k w hb hw hv
    obtain ⟨w', q1, _, _, q4⟩ := h.br b k hb
    rw [hw] at q1
    obtain rfl := Option.some.inj q1
    exact ⟨(q4 hv).1, fun ho => ((q4 hv).2 ho).1⟩
  obtain ⟨ap1, ap2⟩ := apartM_sound hap
  have horig : ∀ i b w, c.blks[i]? = some b → rin i = some w → w.virt = false → ∃ src d kd w0, z.M.get i = some src ∧ srcB src = some d ∧ s.heap.get d = some kd ∧ (b.own = true → kd.own = true) ∧ r d = some w0 ∧ w0.virt = false ∧ w.hb = w0.hb := by
    intro i b w hi hw hv
    obtain ⟨w', src, q1, q2, q3⟩ := newsOk_get hnews i b hi
    rw [Nat.zero_add] at q1 q2
    rw [hw] at q1
    obtain rfl := Option.some.inj q1
    rcases q3 with q3 | ⟨d, kd, w0, p1, p2, p3, p4, p5, _, p7⟩
    · rw [hv] at q3; simp at q3
    · exact ⟨src, d, kd, w0, q2, p1, p2, p3, p4, p5, p7⟩
  have hin : InOk rin H c hh us := by
    refine ⟨⟨x.ds, z.ds, toHL_sound hhl, hargs, blksIn_of hsb hnews⟩, fun k w hw => ?_, fun i j bi bj wi wj hne hi hj hown hwi hwj hvi hvj heq => ?_, by rw [h.ro]; exact Nat.le_trans h.rn h.nx⟩
    · rcases Nat.lt_or_ge k c.blks.length with hlt | hge
      · exact hlt
      · have : rin k = none := if_neg (by omega)
        rw [this] at hw; simp at hw
    · obtain ⟨si, di, kdi, w0i, p1, p2, p3, p4, p5, p6, p7⟩ := horig i bi wi hi hwi hvi
      obtain ⟨sj, dj, kdj, w0j, q1, q2, q3, q4, q5, q6, q7⟩ := horig j bj wj hj hwj hvj
      by_cases hd : di = dj
      · subst hd
        rcases Nat.lt_or_ge i j with hlt | hge
        · obtain ⟨o1, o2⟩ := ap2 i j bi bj si sj di hlt hi hj (by simpa using p1) (by simpa using q1) p2 q2
          rcases hown with ho | ho
          · rw [o1] at ho; simp at ho
          · rw [o2] at ho; simp at ho
        · obtain ⟨o1, o2⟩ := ap2 j i bj bi sj si di (by omega) hj hi (by simpa using q1) (by simpa using p1) q2 p2
          rcases hown with ho | ho
          · rw [o2] at ho; simp at ho
          · rw [o1] at ho; simp at ho
      · refine h.ap di dj kdi kdj w0i w0j hd p3 q3 ?_ p5 q5 p6 q6 (by rw [← p7, ← q7]; exact heq)
        rcases hown with ho | ho
        · exact .inl (p4 ho)
        · exact .inr (q4 ho)
  obtain ⟨n0, u, H', q, hrun, ho⟩ := hg N hh yc hyc rin H us hin
  -- the blocks that were lent
  let olds := c.out.old.map (·.1)
  let rn := rnOf z.M c.blks.length s.next
  let gn := goneN z.M c.out.gone
  let tn := olds.map rn ++ gn
  have hblt : ∀ (j : Nat) (b : BSh), c.blks[j]? = some b → j < c.blks.length := by
    intro j b p1
    rcases Nat.lt_or_ge j c.blks.length with hlt | hge
    · exact hlt
    · rw [List.getElem?_eq_none hge] at p1; simp at p1
  have hrin : ∀ j b, c.blks[j]? = some b → ∀ d, z.M.get j = some (.blk d) → rin j = r d := by
    intro j b p1 d p3
    show (if j < c.blks.length then newR r 0 c.blks z.M j else none) = r d
    rw [if_pos (hblt j b p1), newR_of (.inr ⟨Nat.zero_le _, p3⟩)]
    rfl
  have hold' : ∀ j ∈ olds, ∃ b d, c.blks[j]? = some b ∧ b.own = true ∧ z.M.get j = some (.blk d) ∧ rn j = d ∧ ∃ kd w, s.heap.get d = some kd ∧ kd.own = true ∧ r d = some w ∧ rin j = some w := by
    intro j hj
    obtain ⟨b, d, p1, p2, p3⟩ := lentOk_get hlent j hj
    have hjl := hblt j b p1
    have hrn : rn j = d := by
      show rnOf z.M c.blks.length s.next j = d
      unfold rnOf
      rw [blt_iff.2 hjl, cond_true, p3]
    obtain ⟨w, src, q1, q2, q3⟩ := newsOk_get hnews j b p1
    rw [Nat.zero_add] at q1 q2
    have hrj := hrin j b p1 d p3
    have q1' := q1
    rw [hrj] at q1
    obtain ⟨kd, hk1, hk2⟩ := absBs_pres h hz m1 (SubM.refl _) j b _ d p1 (by simpa using p3) rfl
    exact ⟨b, d, p1, p2, p3, hrn, kd, w, hk1, hk2 p2, q1, q1'⟩
  have hgn : ∀ d, d ∈ gn ↔ ∃ j ∈ c.out.gone, ∃ src, z.M.get j = some src ∧ srcB src = some d := by
    intro d
    show d ∈ goneN z.M c.out.gone ↔ _
    induction c.out.gone with
    | nil => simp [goneN]
    | cons j l ih =>
      simp only [goneN]
      split
      · rename_i src hs
        split
        · rename_i b hb
          rw [List.mem_cons, ih]
          constructor
          · rintro (rfl | ⟨j', h1, h2⟩)
            · exact ⟨j, List.mem_cons_self .., src, hs, hb⟩
            · exact ⟨j', List.mem_cons_of_mem _ h1, h2⟩
          · rintro ⟨j', h1, src', h2, h3⟩
            rcases List.mem_cons.1 h1 with rfl | h1
            · rw [hs] at h2
              obtain rfl := Option.some.inj h2
              rw [hb] at h3
              exact .inl (Option.some.inj h3).symm
            · exact .inr ⟨j', h1, src', h2, h3⟩
        · rename_i hb
          rw [ih]
          constructor
          · rintro ⟨j', h1, h2⟩
            exact ⟨j', List.mem_cons_of_mem _ h1, h2⟩
          · rintro ⟨j', h1, src', h2, h3⟩
            rcases List.mem_cons.1 h1 with rfl | h1
            · rw [hs] at h2
              obtain rfl := Option.some.inj h2
              rw [hb] at h3; simp at h3
            · exact ⟨j', h1, src', h2, h3⟩
      · rename_i hs
        rw [ih]
        constructor
        · rintro ⟨j', h1, h2⟩
          exact ⟨j', List.mem_cons_of_mem _ h1, h2⟩
        · rintro ⟨j', h1, src', h2, h3⟩
          rcases List.mem_cons.1 h1 with rfl | h1
          · rw [hs] at h2; simp at h2
          · exact ⟨j', h1, src', h2, h3⟩
  have hokk := hok
  unfold Sg.ok at hokk
  simp only [Bool.and_eq_true] at hokk
  obtain ⟨⟨⟨⟨okA, okB⟩, okC⟩, okD⟩, okE⟩ := hokk
  obtain ⟨okD, okF⟩ := okD
  have hndt : (olds ++ c.out.gone).Nodup := nodupN_iff okD
  have hgl : ∀ j ∈ c.out.gone, ∃ b, c.blks[j]? = some b := fun j hj => ⟨_, List.getElem?_eq_getElem (blt_iff.1 (List.all_eq_true.1 okF j hj))⟩
  have hmine : ∀ x, Mine rin c x → ∃ d kd w, d ∈ tn ∧ s.heap.get d = some kd ∧ kd.own = true ∧ r d = some w ∧ w.virt = false ∧ w.hb = x := by
    rintro x ⟨j, b, w, p1, p2, p3, p4, p5⟩
    have hj : j ∈ olds ++ c.out.gone := by
      have := List.all_eq_true.1 okE j (List.mem_range.2 (hblt j b p1))
      rw [p1] at this
      simp only [p2, Bool.not_true, Bool.false_or, inL_iff] at this
      exact this
    obtain ⟨src, d, kd, w0, q1, q2, q3, q4, q5, q6, q7⟩ := horig j b w p1 p3 p4
    refine ⟨d, kd, w0, ?_, q3, q4 p2, q5, q6, by rw [← q7]; exact p5⟩
    rcases List.mem_append.1 hj with hj | hj
    · obtain ⟨b', d', g1, g2, g3, g4, _⟩ := hold' j hj
      rw [g3] at q1
      obtain rfl := Option.some.inj q1
      obtain rfl := Option.some.inj q2
      exact List.mem_append.2 (.inl (List.mem_map.2 ⟨j, hj, g4⟩))
    · exact List.mem_append.2 (.inr ((hgn d).2 ⟨j, hj, src, q1, q2⟩))
  have hinj : ∀ j ∈ olds, ∀ j' ∈ olds, rn j = rn j' → j = j' := by
    intro j hj j' hj' he
    obtain ⟨b, d, p1, p2, p3, p4, _⟩ := hold' j hj
    obtain ⟨b', d', q1, q2, q3, q4, _⟩ := hold' j' hj'
    have hd : d = d' := by rw [← p4, ← q4]; exact he
    subst hd
    rcases Nat.lt_trichotomy j j' with hlt | heq | hgt
    · have := (ap2 j j' b b' _ _ d hlt p1 q1 (by simpa using p3) (by simpa using q3) rfl rfl).1
      rw [p2] at this; simp at this
    · exact heq
    · have := (ap2 j' j b' b _ _ d hgt q1 p1 (by simpa using q3) (by simpa using p3) rfl rfl).1
      rw [q2] at this; simp at this
  have hog : ∀ j ∈ olds, rn j ∉ gn := by
    intro j hj hm
    obtain ⟨b, d, p1, p2, p3, p4, _⟩ := hold' j hj
    obtain ⟨j', hj', src, q1, q2⟩ := (hgn _).1 hm
    rw [p4] at q2
    have hne : j ≠ j' := (List.nodup_append.1 hndt).2.2 j hj j' hj'
    obtain ⟨b', hb'⟩ := hgl j' hj'
    rcases Nat.lt_or_ge j j' with hlt | hge
    · have := (ap2 j j' b b' _ _ d hlt p1 hb' (by simpa using p3) (by simpa using q1) rfl q2).1
      rw [p2] at this; simp at this
    · have := (ap2 j' j b' b _ _ d (by omega) hb' p1 (by simpa using q1) (by simpa using p3) q2 rfl).2
      rw [p2] at this; simp at this
  -- the map behind
  let rT : RM := fun k => if k < s.next then r k else if k < s.next + c.out.new.length then q (c.blks.length + (k - s.next)) else none
  let q' : RM := fun k => if k < c.blks.length then none else if k < c.blks.length + c.out.new.length then q k else none
  have hrT : Ext r rT := fun b w hb => by
    have := h.dm b w hb
    show (if b < s.next then r b else _) = _
    rw [if_pos this]; exact hb
  have hvia : Via rn q' rT := by
    intro k w hw
    have hw : (if k < c.blks.length then none else if k < c.blks.length + c.out.new.length then q k else none) = some w := hw
    split at hw
    · simp at hw
    · rename_i hk
      split at hw
      · rename_i hk2
        have hrn : rn k = s.next + (k - c.blks.length) := by
          show rnOf z.M c.blks.length s.next k = _
          unfold rnOf
          rw [show Nat.blt k c.blks.length = false by
            cases hb : Nat.blt k c.blks.length with
            | false => rfl
            | true => exact absurd (blt_iff.1 hb) hk, cond_false]
        rw [hrn]
        show (if _ < s.next then _ else if _ < s.next + c.out.new.length then q (c.blks.length + (s.next + (k - c.blks.length) - s.next)) else none) = _
        rw [if_neg (by omega), if_pos (by omega), show c.blks.length + (s.next + (k - c.blks.length) - s.next) = k by omega]
        exact hw
      · simp at hw
  have hokr : ∀ k ∈ c.out.refs, c.blks.length ≤ k ∧ k < c.blks.length + c.out.new.length := by
    intro k hk
    have := List.all_eq_true.1 okA k hk
    simpa only [Bool.and_eq_true, Nat.ble_eq, blt_iff] using this
  have hon2 : ∀ l : List Nat, (∀ k ∈ l, k ∈ c.out.refs) → ∀ k ∈ l, ∀ w, q k = some w → q' k = some w := by
    intro l hl k hk w hw
    obtain ⟨k1, k2⟩ := hokr k (hl k hk)
    show (if k < c.blks.length then none else if k < c.blks.length + c.out.new.length then q k else none) = some w
    rw [if_neg (by omega), if_pos k2]; exact hw
  have hq'eq : ∀ i, i < c.out.new.length → q' (c.blks.length + i) = q (c.blks.length + i) := by
    intro i hi
    show (if c.blks.length + i < c.blks.length then none else if c.blks.length + i < c.blks.length + c.out.new.length then q (c.blks.length + i) else none) = _
    rw [if_neg (by omega), if_pos (by omega)]
  obtain ⟨d1, d2, d3, e1, e2, e3, e4⟩ := ho.parts
  have e2' := DRs.on (hon2 _ fun k hk => by unfold Shape.refs; simp [hk]) e2
  have e3' := OldsOut.on (hon2 _ fun k hk => by unfold Shape.refs; simp [hk]) e3
  have e4' := NewsOut.on (hon2 _ fun k hk => by unfold Shape.refs; simp [hk]) hq'eq e4
  obtain ⟨vs, v1, v2⟩ := conRs_sound hvia e2'
  obtain ⟨v, vs', hvs, v3, v4⟩ : ∃ v vs', vs = v :: vs' ∧ VR rT v u ∧ vs' = [] := by
    cases vs with
    | nil => simp [VRs] at v2
    | cons v vs' =>
      obtain ⟨u', us', he, k1, k2⟩ := v2
      simp only [List.cons.injEq] at he
      obtain ⟨rfl, rfl⟩ := he
      cases vs' with
      | nil => exact ⟨v, [], rfl, k1, rfl⟩
      | cons _ _ => obtain ⟨_, _, he, _⟩ := k2; simp at he
  subst v4 hvs
  have hrnb : ∀ j ∈ olds, rn j < s.next := by
    intro j hj
    obtain ⟨_, d, _, _, _, q4, kd, w, q5, _, q7, _⟩ := hold' j hj
    rw [q4]
    exact h.dm d w q7
  have hnd : ∀ l : List (Nat × CSh), (∀ x ∈ l, x.1 ∈ olds) → (l.map (·.1)).Nodup → (l.map fun x => rn x.1).Nodup := by
    intro l hl hn
    induction l with
    | nil => exact List.nodup_nil
    | cons x l ih =>
      rw [List.map_cons, List.nodup_cons] at hn ⊢
      refine ⟨fun hm => ?_, ih (fun y hy => hl y (List.mem_cons_of_mem _ hy)) hn.2⟩
      obtain ⟨y, hy, he⟩ := List.mem_map.1 hm
      have := hinj y.1 (hl y (List.mem_cons_of_mem _ hy)) x.1 (hl x (List.mem_cons_self ..)) he
      exact hn.1 (List.mem_map.2 ⟨y, hy, this⟩)
  have holdt : ∀ x ∈ c.out.old, x.1 ∈ olds := fun x hx => List.mem_map.2 ⟨x, hx, rfl⟩
  have hgnb : ∀ d ∈ gn, ∀ (i : Nat), d ≠ s.next + i := by
    intro d hd i he
    obtain ⟨j, hj, src, q1, q2⟩ := (hgn d).1 hd
    obtain ⟨b, hb⟩ := hgl j hj
    obtain ⟨kd, hkd, _⟩ := absBs_pres h hz m1 (SubM.refl _) j b src d hb (by simpa using q1) q2
    obtain ⟨_, _, _, hlt, _⟩ := h.br d kd hkd
    omega
  obtain ⟨hp1, n1, n2, n3⟩ := conOld_out hvia (h := delB id gn s.heap) e3' (hnd _ holdt (List.nodup_append.1 hndt).1)
  have hrnn : ∀ i, rn (c.blks.length + i) = s.next + i := by
    intro i
    show rnOf z.M c.blks.length s.next (c.blks.length + i) = _
    unfold rnOf
    rw [show Nat.blt (c.blks.length + i) c.blks.length = false by
      cases hb : Nat.blt (c.blks.length + i) c.blks.length with
      | false => rfl
      | true => exact absurd (blt_iff.1 hb) (by omega), cond_false]
    omega
  obtain ⟨hp2, o1, o2, o3⟩ := conBs_out hvia (h := hp1) e4' (fun i j _ _ he => by rw [hrnn, hrnn] at he; omega)
  simp only [e1] at hk2
  have hk3 : κ v { s with heap := hp2, next := s.next + c.out.new.length, log := tn ++ s.log } = some y := by
    have q1 : conRs (rnOf z.M c.blks.length s.next) (c.out.regs.map (·.2)) (d1 ++ (d2 ++ d3)) = some ([v], d2 ++ d3) := v1 _
    have q2 : conOld (rnOf z.M c.blks.length s.next) c.out.old (d2 ++ d3) (delB id (goneN z.M c.out.gone) s.heap) = some (hp1, d3) := n1 _
    have q3 : conBs (rnOf z.M c.blks.length s.next) c.blks.length c.out.new d3 hp1 = some hp2 := o1
    rw [q1] at hk2
    simp only at hk2
    rw [q2] at hk2
    simp only at hk2
    rw [q3] at hk2
    exact hk2
  -- kept blocks
  have hkeep : ∀ b, b < s.next → b ∉ tn → hp2.get b = s.heap.get b := by
    intro b hb hnt
    rw [o2 b (fun i hi => by rw [hrnn]; omega), n2 b (fun x hx he => hnt (List.mem_append.2 (.inl (List.mem_map.2 ⟨x.1, holdt x hx, he.symm⟩)))), delB_get (fun x hx he => hnt (List.mem_append.2 (.inr (by simpa using he ▸ hx))))]
  have hgone : ∀ d ∈ gn, hp2.get d = none := by
    intro d hd
    rw [o2 _ (fun i hi => by rw [hrnn]; exact hgnb d hd i), n2 _ (fun x hx he => hog x.1 (holdt x hx) (he ▸ hd))]
    exact delB_none (rn := id) hd
  have hfree : ∀ b k w, b ∉ tn → s.heap.get b = some k → r b = some w → w.virt = false → ¬ Mine rin c w.hb := by
    intro b k w hnt hk hw hv hm
    obtain ⟨d, kd, wd, p1, p3, p4, p5, p6, p7⟩ := hmine w.hb hm
    have hne : b ≠ d := fun he => hnt (he ▸ p1)
    exact h.ap b d k kd w wd hne hk p3 (.inr p4) hw p5 hv p6 p7.symm
  have hcase : ∀ b k, hp2.get b = some k →
      (b < s.next ∧ b ∉ tn ∧ s.heap.get b = some k) ∨
      (∃ x ∈ c.out.old, b = rn x.1 ∧ k.own = true ∧ ∃ w, rin x.1 = some w ∧ BR rT H' w k.c) ∨
      (∃ i bs, b = s.next + i ∧ c.out.new[i]? = some bs ∧ k.own = bs.own ∧ ∃ w, q (c.blks.length + i) = some w ∧ BR rT H' w k.c ∧ (w.virt = false → w.hb < H'.next ∧ H'.ro ≤ w.hb ∧ (Mine rin c w.hb ∨ H.next ≤ w.hb))) := by
    intro b k hk
    rcases Nat.lt_or_ge b s.next with hb | hb
    · by_cases hto : b ∈ tn
      · rcases List.mem_append.1 hto with hjo | hjg
        · obtain ⟨j, hj, rfl⟩ := List.mem_map.1 hjo
          obtain ⟨x, hx, rfl⟩ := List.mem_map.1 hj
          obtain ⟨cc, w, g1, g2, g3⟩ := n3 x hx
          rw [o2 _ (fun i hi => by rw [hrnn]; omega), g1] at hk
          obtain rfl := Option.some.inj hk
          exact .inr (.inl ⟨x, hx, rfl, rfl, w, g2, g3⟩)
        · rw [hgone b hjg] at hk; simp at hk
      · exact .inl ⟨hb, hto, by rw [← hkeep b hb hto]; exact hk⟩
    · obtain ⟨i, rfl⟩ : ∃ i, b = s.next + i := ⟨b - s.next, by omega⟩
      rcases Nat.lt_or_ge i c.out.new.length with hi | hi
      · obtain ⟨cc, w, g1, g2, g3, g4⟩ := o3 i c.out.new[i] (List.getElem?_eq_getElem hi)
        rw [hrnn] at g1
        rw [g1] at hk
        obtain rfl := Option.some.inj hk
        rw [hq'eq i hi] at g2
        exact .inr (.inr ⟨i, _, rfl, List.getElem?_eq_getElem hi, rfl, w, g2, g3, g4⟩)
      · exfalso
        rw [o2 _ (fun j hj => by rw [hrnn]; omega), n2 _ (fun x hx he => by have := hrnb x.1 (holdt x hx); omega), delB_get (fun x hx he => hgnb x hx i (by simpa using he.symm))] at hk
        obtain ⟨_, _, _, hlt, _⟩ := h.br _ _ hk
        omega
  have hoW : ∀ x ∈ c.out.old, ∀ w, rin x.1 = some w → rT (rn x.1) = some w ∧ rn x.1 < s.next ∧ ∃ kd, s.heap.get (rn x.1) = some kd ∧ kd.own = true ∧ r (rn x.1) = some w := by
    intro x hx w hw
    obtain ⟨b, d, p1, p2, p3, p4, kd, w', p5, p6, p7, p8⟩ := hold' x.1 (holdt x hx)
    rw [hw] at p8
    obtain rfl := Option.some.inj p8
    rw [p4]
    exact ⟨hrT _ _ p7, h.dm _ _ p7, kd, p5, p6, p7⟩
  have hnewone : ∀ (i : Nat) (bs : BSh), c.out.new[i]? = some bs → bs.own = true := by
    intro i bs hi
    exact List.all_eq_true.1 okB bs (List.mem_of_getElem? hi)
  have hnlen : ∀ (i : Nat) (bs : BSh), c.out.new[i]? = some bs → i < c.out.new.length := by
    intro i bs hi
    rcases Nat.lt_or_ge i c.out.new.length with hlt | hge
    · exact hlt
    · rw [List.getElem?_eq_none hge] at hi; simp at hi
  have hnT : ∀ i, i < c.out.new.length → rT (s.next + i) = q (c.blks.length + i) := by
    intro i hi
    show (if s.next + i < s.next then _ else if s.next + i < s.next + c.out.new.length then q (c.blks.length + (s.next + i - s.next)) else none) = _
    rw [if_neg (by omega), if_pos (by omega), show s.next + i - s.next = i by omega]
  obtain ⟨l0, lg1, lg2, lg3⟩ := h.lg
  obtain ⟨l1, mg1, mg2⟩ := ho.lg
  have hmF : ∀ x, Mine rin c x → P.F0 x ∨ P.H0.next ≤ x := by
    intro x hm
    obtain ⟨d, kd, wd, p1, p3, p4, p5, p6, p7⟩ := hmine x hm
    obtain ⟨w', q1, _, _, q4⟩ := h.br d kd p3
    rw [p5] at q1
    obtain rfl := Option.some.inj q1
    rw [← p7]
    exact ((q4 p6).2 p4).2
  refine ⟨n0, u, H', v, { s with heap := hp2, next := s.next + c.out.new.length, log := tn ++ s.log }, rT, hrun, ⟨fun t v hv => ?_, fun b k hk => ?_, fun b w hw => ?_, ?_, Nat.le_trans h.nx ho.next, by rw [ho.ro, h.ro], fun x hx hf => ?_, Nat.le_trans h.st (Nat.le_add_right ..), h.rn, ⟨l1 ++ l0, by rw [mg1, lg1, List.append_assoc], fun x hx => ?_, fun b k w hk hw hv hlt hnl => ?_⟩⟩,
    v3, hrT, ⟨Nat.le_add_right .., rfl, tn, rfl, fun b hb hn => hkeep b hb hn⟩, rfl, hk3⟩
  · obtain ⟨u2, k1, k2⟩ := h.er t v hv
    exact ⟨u2, k1, k2.mono hrT⟩
  · rcases hcase b k hk with ⟨h1, h2, h3⟩ | ⟨x, hx, rfl, h2, w, h3, h4⟩ | ⟨i, bs, rfl, h1, h2, w, h3, h4, h5⟩
    · obtain ⟨w, k1, k2, k3, k4⟩ := h.br b k h3
      refine ⟨w, hrT _ _ k1, BR.mono hrT (fun hv => ?_) k2, by simp only; omega, fun hv => ?_⟩
      · exact ho.fr w.hb (k4 hv).1 (hfree b k w h2 h3 k1 hv)
      · obtain ⟨q1, q2⟩ := k4 hv
        exact ⟨Nat.lt_of_lt_of_le q1 ho.next, fun hw => by rw [ho.ro]; exact q2 hw⟩
    · obtain ⟨p1, p2, kd, p3, p4, p5⟩ := hoW x hx w h3
      obtain ⟨w', q1, q2, q3, q4⟩ := h.br _ kd p3
      rw [p5] at q1
      obtain rfl := Option.some.inj q1
      refine ⟨w, p1, h4, by simp only; omega, fun hv => ?_⟩
      obtain ⟨q5, q6⟩ := q4 hv
      exact ⟨Nat.lt_of_lt_of_le q5 ho.next, fun _ => by rw [ho.ro]; exact q6 p4⟩
    · have hi := hnlen i bs h1
      refine ⟨w, by rw [hnT i hi]; exact h3, h4, by simp only; omega, fun hv => ?_⟩
      obtain ⟨q1, q2, q3⟩ := h5 hv
      refine ⟨q1, fun _ => ⟨q2, ?_⟩⟩
      rcases q3 with q3 | q3
      · exact hmF _ q3
      · exact .inr (Nat.le_trans h.nx q3)
  · have hw : (if b < s.next then r b else if b < s.next + c.out.new.length then q (c.blks.length + (b - s.next)) else none) = some w := hw
    simp only
    split at hw
    · omega
    · split at hw
      · omega
      · simp at hw
  · -- apart
    intro b b' k k' w w' hne hk hk' hown hw hw' hv hv' heq
    have hW : ∀ {b : Nat} {w1 w2 : W}, rT b = some w1 → rT b = some w2 → w1 = w2 := fun h1 h2 => by rw [h1] at h2; exact Option.some.inj h2
    have key : ∀ b b' k k' w w', b ≠ b' → hp2.get b = some k → hp2.get b' = some k' → (k.own = true ∨ k'.own = true) → rT b = some w → rT b' = some w' → w.virt = false → w'.virt = false → w.hb = w'.hb →
        (∃ i bs, b' = s.next + i ∧ c.out.new[i]? = some bs) → False := by
      rintro b b' k k' w w' hne hk hk' hown hw hw' hv hv' heq ⟨i, bs, rfl, hi⟩
      have hil := hnlen i bs hi
      rw [hnT i hil] at hw'
      obtain ⟨_, w2, _, g2, _, g4⟩ := o3 i bs hi
      rw [hq'eq i hil, hw'] at g2
      obtain rfl := Option.some.inj g2
      obtain ⟨q1, q2, q3⟩ := g4 hv'
      rcases hcase b k hk with ⟨h1, h2, h3⟩ | ⟨x, hx, rfl, h2, w3, h3, h4⟩ | ⟨j, bs', rfl, h1, h2, w3, h3, h4, h5⟩
      · obtain ⟨w4, k1, k2, k3, k4⟩ := h.br b k h3
        have := hW hw (hrT _ _ k1)
        subst this
        rcases q3 with q3 | q3
        · exact hfree b k w h2 h3 k1 hv (heq ▸ q3)
        · have := (k4 hv).1; omega
      · obtain ⟨p1, _⟩ := hoW x hx w3 h3
        have := hW hw p1
        subst this
        exact ho.ap1 x hx i w w' hil h3 hw' hv hv' heq
      · have hjl := hnlen j bs' h1
        rw [hnT j hjl] at hw
        exact ho.ap2 j i w w' (fun he => hne (by rw [he])) hjl hil hw hw' hv hv' heq
    rcases hcase b' k' hk' with ⟨h1, h2, h3⟩ | ⟨x, hx, rfl, h2, w3, h3, h4⟩ | ⟨i, bs, hi1, hi2, _⟩
    · rcases hcase b k hk with ⟨g1, g2, g3⟩ | ⟨x, hx, rfl, g2, w3, g3, g4⟩ | ⟨i, bs, hi1, hi2, _⟩
      · obtain ⟨w4, k1, _⟩ := h.br b k g3
        obtain ⟨w5, k2, _⟩ := h.br b' k' h3
        have e1 := hW hw (hrT _ _ k1)
        have e2 := hW hw' (hrT _ _ k2)
        subst e1 e2
        exact h.ap b b' k k' w w' hne g3 h3 hown k1 k2 hv hv' heq
      · obtain ⟨p1, p2, kd, p3, p4, p5⟩ := hoW x hx w3 g3
        obtain ⟨w5, k2, _⟩ := h.br b' k' h3
        have e1 := hW hw p1
        have e2 := hW hw' (hrT _ _ k2)
        subst e1 e2
        exact h.ap _ b' kd k' w w' hne p3 h3 (.inl p4) p5 k2 hv hv' heq
      · exact key b' b k' k w' w (Ne.symm hne) hk' hk (Or.symm hown) hw' hw hv' hv heq.symm ⟨i, bs, hi1, hi2⟩
    · rcases hcase b k hk with ⟨g1, g2, g3⟩ | ⟨x', hx', rfl, g2, w4, g3, g4⟩ | ⟨i, bs, hi1, hi2, _⟩
      · obtain ⟨p1, p2, kd, p3, p4, p5⟩ := hoW x hx w3 h3
        obtain ⟨w5, k2, _⟩ := h.br b k g3
        have e1 := hW hw' p1
        have e2 := hW hw (hrT _ _ k2)
        subst e1 e2
        exact h.ap b _ k kd w w' hne g3 p3 (.inr p4) k2 p5 hv hv' heq
      · obtain ⟨p1, p2, kd, p3, p4, p5⟩ := hoW x hx w3 h3
        obtain ⟨p1', p2', kd', p3', p4', p5'⟩ := hoW x' hx' w4 g3
        have e1 := hW hw' p1
        have e2 := hW hw p1'
        subst e1 e2
        exact h.ap _ _ kd' kd w w' hne p3' p3 (.inl p4') p5' p5 hv hv' heq
      · exact key _ b k' k w' w (Ne.symm hne) hk' hk (Or.symm hown) hw' hw hv' hv heq.symm ⟨i, bs, hi1, hi2⟩
    · exact key b b' k k' w w' hne hk hk' hown hw hw' hv hv' heq ⟨i, bs, hi1, hi2⟩
  · rw [ho.fr x (Nat.lt_of_lt_of_le hx h.nx) (fun hm => by rcases hmF x hm with h1 | h1; exact hf h1; omega)]
    exact h.fr x hx hf
  · rcases List.mem_append.1 hx with hx | hx
    · rcases mg2 x hx with h1 | h1
      · exact hmF x h1
      · exact .inr (Nat.le_trans h.nx h1)
    · exact lg2 x hx
  · simp only at hlt hnl
    rw [List.mem_append, not_or] at hnl
    have hb : b < s.next := Nat.lt_of_lt_of_le hlt h.st
    rw [hkeep b hb hnl.1] at hk
    obtain ⟨w4, k1, _, _, k4⟩ := h.br b k hk
    have hw1 := hrT _ _ k1
    rw [hw] at hw1
    obtain rfl := Option.some.inj hw1
    obtain ⟨q1, q2⟩ := lg3 b k w hk k1 hv hlt hnl.2
    refine ⟨q1, ?_⟩
    rw [List.mem_append, not_or]
    refine ⟨fun hm => ?_, q2⟩
    rcases mg2 _ hm with h1 | h1
    · exact hfree b k w hnl.1 hk k1 hv h1
    · have := (k4 hv).1; omega

theorem callK_sound {T : Tab} {K : CTab} (hK : GoodK T K) {N : Nat} : ∀ {ρ : Type}, CallSnd (evF T) (callK N K (ρ := ρ)) := by
  intro ρ P r s e H f svs us κ y h hus hk
  unfold callK at hk
  split at hk
  · rename_i c hc
    obtain ⟨h1, h2⟩ := hK f svs c hc
    exact callC_sound (cf := evF T) h1 h2 h hus hk
  · simp at hk

end
end Go.Sh
