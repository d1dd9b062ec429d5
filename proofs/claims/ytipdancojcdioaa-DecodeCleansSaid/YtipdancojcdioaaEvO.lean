/- Functions: what the evaluator answers, the loaded call answers. -/
import Derived.Test.YtipdancojcdioaaEvN
namespace Go.Ev
set_option linter.unusedVariables false
set_option linter.unusedSimpArgs false
open Go

/-! ### results -/
def cRes (P : Program) : List ResultVar → Option (List (Nat × Option (Nat × Bool)))
  | [] => some []
  | .tmp t :: r => match cRes P r with
    | some rs => some ((t, none) :: rs)
    | none => none
  | .cell t ty :: r => match size? P ty, isAgg? P ty, cRes P r with
    | some n, some g, some rs => if g = true ∨ n = 1 then some ((t, some (n, g)) :: rs) else none
    | _, _, _ => none

section
variable {P : Program}

theorem res_sound {j : JM} {H : Heap} {w : World} {e : Env} {tmps : Array Value} (hw : WR j H w) (hE : ER j e tmps) : ∀ {l : List ResultVar} {rs : List (Nat × Option (Nat × Bool))} {vs : List AV}, cRes P l = some rs → resOf e H rs = some vs →
    ∃ cs, VRs j vs cs ∧ ((l.mapM fun
      | .tmp t => pure (tmps.getD t undef)
      | .cell a t => do loadVar t (← asAddr (tmps.getD a undef)) : Sem (List Value))).run P w = .ok cs w
  | [], rs, vs, h, hr => by
    simp only [cRes, Option.some.injEq] at h
    subst h
    simp only [resOf, Option.some.injEq] at hr
    subst hr
    exact ⟨[], rfl, by simp⟩
  | .tmp t :: l, rs, vs, h, hr => by
    simp only [cRes] at h
    split at h
    · rename_i rs' hrs
      obtain rfl := Option.some.inj h
      simp only [resOf] at hr
      split at hr
      · rename_i v hv
        split at hr
        · rename_i vs' hvs
          obtain rfl := Option.some.inj hr
          obtain ⟨cs, h1, h2⟩ := res_sound hw hE hrs hvs
          exact ⟨_, ⟨_, cs, rfl, hE t v hv, h1⟩, by simp only [List.mapM_cons, Sem.run_bind, Sem.run_pure, Result.andThen_ok, h2]⟩
        · simp at hr
      · simp at hr
    · simp at h
  | .cell t ty :: l, rs, vs, h, hr => by
    simp only [cRes] at h
    split at h
    · rename_i n g rs' hn hg hrs
      obtain ⟨hgn, h⟩ := if_some h
      obtain rfl := Option.some.inj h
      simp only [resOf] at hr
      split at hr
      · rename_i v hv
        split at hr
        · rename_i u hu
          split at hr
          · rename_i vs' hvs
            obtain rfl := Option.some.inj hr
            obtain ⟨cs, h1, h2⟩ := res_sound hw hE hrs hvs
            have hvr := hE t v hv
            cases v <;> (try simp at hu; done)
            rename_i b off
            obtain ⟨loc, hl, he⟩ := hvr
            simp only at hu
            split at hu
            · rename_i cs0 hcs0
              obtain ⟨l0, hvl, hrun, hcell⟩ := load_sound (P := P) hw hcs0 hl
              cases g with
              | true =>
                simp only [cond_true, Option.some.injEq] at hu
                subst hu
                have hrun1 : (do loadVar ty (← asAddr (tmps.getD t undef)) : Sem Value).run P w = .ok (.agg l0.toArray) w := by
                  simp only [Sem.run_bind, he, asAddr, Sem.run_pure, Result.andThen_ok, loadVar, run_isAgg hg, run_sizeOf hn, hrun, if_true]
                refine ⟨_, ⟨.agg l0.toArray, cs, rfl, ⟨l0, rfl, hvl⟩, h1⟩, ?_⟩
                rw [List.mapM_cons, Sem.run_bind]
                refine (congrArg (fun r : Result Value => r.andThen _) hrun1).trans ?_
                simp only [Result.andThen_ok, Sem.run_bind, h2, Sem.run_pure]
              | false =>
                simp only [cond_false] at hu
                split at hu
                · rename_i c0
                  simp only [Option.some.injEq] at hu
                  subst hu
                  obtain ⟨c, _, rfl, hvc, rfl⟩ := hvl
                  have := hcell 0 c rfl
                  simp only [Nat.add_zero] at this
                  have hrun1 : (do loadVar ty (← asAddr (tmps.getD t undef)) : Sem Value).run P w = .ok c w := by
                    simp only [Sem.run_bind, he, asAddr, Sem.run_pure, Result.andThen_ok, loadVar, run_isAgg hg, run_load, this, Bool.false_eq_true, if_false]
                  refine ⟨_, ⟨c, cs, rfl, hvc, h1⟩, ?_⟩
                  rw [List.mapM_cons, Sem.run_bind]
                  refine (congrArg (fun r : Result Value => r.andThen _) hrun1).trans ?_
                  simp only [Result.andThen_ok, Sem.run_bind, h2, Sem.run_pure]
                · simp at hu
            · simp at hu
          · simp at hr
        · simp at hr
      · simp at hr
    · simp at h

theorem results_sound {j : JM} {H : Heap} {w : World} {e : Env} {tmps : Array Value} (hw : WR j H w) (hE : ER j e tmps) {fn : Func} {rs : List (Nat × Option (Nat × Bool))} {vs : List AV}
    (h : cRes P fn.results.toList = some rs) (hr : resOf e H rs = some vs) : ∃ c, VR j (single vs) c ∧ (results fn tmps).run P w = .ok c w := by
  obtain ⟨cs, h1, h2⟩ := res_sound hw hE h hr
  have hlen := VRs.length h1
  refine ⟨if h : cs.toArray.size = 1 then cs.toArray[0] else .tuple cs.toArray, ?_, ?_⟩
  · unfold single
    split
    · obtain ⟨c, _, rfl, hv, rfl⟩ := h1
      simpa using hv
    · rename_i hne
      rw [dif_neg]
      · exact ⟨cs, rfl, h1⟩
      · intro hs
        simp only [List.size_toArray, hlen] at hs
        obtain ⟨v, rfl⟩ := List.length_eq_one_iff.1 hs
        exact hne v rfl
  · unfold results
    rw [Array.mapM_eq_mapM_toList]
    simp only [Sem.run_bind, Sem.run_map]
    exact congrArg (fun r : Result (List Value) => (r.andThen fun a w' => Result.ok a.toArray w').andThen fun a w' => Sem.run P (pure (if h : a.size = 1 then a[0] else Value.tuple a)) w') h2

/-! ### functions -/
def GoodF (P : Program) (md : Nat → Nat) (f : Nat) (F : AFunc) : Prop :=
  ∃ fn code, P.funcs[f]? = some fn ∧ fn.body = some code ∧ (fn.name == "runtime.NumGoroutine") = false ∧ cC P md fn.ntmps code = some F.body ∧ cRes P fn.results.toList = some F.results

def GoodT (P : Program) (md : Nat → Nat) (T : Nat → Option AFunc) : Prop := ∀ f F, T f = some F → F.mode = md f ∧ GoodF P md f F

theorem run_callFunc {f : Nat} {fn : Func} {code : Code} (hf : P.funcs[f]? = some fn) (hb : fn.body = some code) (hn : (fn.name == "runtime.NumGoroutine") = false) (args : Array Value) (w : World) :
    (callFunc f args).run P w = .ok (.enter f args) w := by
  simp [callFunc, hf, hb]
  simpa using hn

theorem lk_params : ∀ {args : List AV} {n t : Nat} {v : AV}, lk (params n args) t = some v → ∃ k, t = n + k ∧ args[k]? = some v
  | [], n, t, v, h => by simp [params, lk, Tr.get] at h
  | u :: args, n, t, v, h => by
    simp only [params, lk] at h
    rw [Tr.get_set _ _ _ _ _ (by omega)] at h
    split at h
    · rename_i hn; obtain rfl := Option.some.inj h; exact ⟨0, by omega, rfl⟩
    · obtain ⟨k, h1, h2⟩ := lk_params h; exact ⟨k + 1, by omega, by simpa using h2⟩

theorem body_sound {callF : CallF} {md : Nat → Nat} (hcall : CallOk P callF) (hmd : CallCls callF md) (hmo : CallMono callF) (hmix : P.follows .mixedOrders = true) {fuel f : Nat} {F : AFunc} (hF : GoodF P md f F)
    {j : JM} {H H' : Heap} {w : World} {args : List AV} {l : List Value} {v : AV} (hw : WR j H w) (hl : VRs j args l) (hr : evBody callF fuel F args H = some (v, H')) : Calls P f l.toArray w (FnPost j H w v H') := by
  obtain ⟨fn, code, hf, hb, hn, hc, hres⟩ := hF
  refine calls_of_wp hf hb ?_
  have hs : St j fn.ntmps (params 0 args) { tmps := l.toArray ++ Array.replicate (fn.ntmps - l.toArray.size) undef, defers := [] } := by
    refine ⟨fun t v hv => ?_, by simp; omega, rfl⟩
    obtain ⟨k, rfl, hk⟩ := lk_params hv
    obtain ⟨c, h1, h2⟩ := VRs.get hl k v hk
    have hkl : k < l.length := by
      rcases Nat.lt_or_ge k l.length with h | h
      · exact h
      · rw [List.getElem?_eq_none h] at h1; simp at h1
    rw [Nat.zero_add, Array.getD_eq_getD_getElem?, Array.getElem?_append_left (by simpa using hkl)]
    simp only [List.getElem?_toArray, h1, Option.getD_some]
    exact h2
  unfold evBody at hr
  split at hr
  · rename_i e h1 hev
    split at hr
    · rename_i vs hvs
      simp only [Option.some.injEq, Prod.mk.injEq] at hr
      obtain ⟨rfl, rfl⟩ := hr
      refine wp_mono (code_sound hcall hmd hmo hmix hc hw hs hev) ?_
      rintro x a w' ⟨hex, j', htr, hs'⟩
      cases x <;> simp only [exRel] at hex
      obtain ⟨c, hv, hrun⟩ := results_sound htr.wr hs'.er hres hvs
      exact ⟨hs'.defers, c, hrun, j', c, htr, hv, rfl⟩
    · simp at hr
  · rename_i e h1 hev
    split at hr
    · rename_i vs hvs
      simp only [Option.some.injEq, Prod.mk.injEq] at hr
      obtain ⟨rfl, rfl⟩ := hr
      refine wp_mono (code_sound hcall hmd hmo hmix hc hw hs hev) ?_
      rintro x a w' ⟨hex, j', htr, hs'⟩
      cases x <;> simp only [exRel] at hex
      obtain ⟨c, hv, hrun⟩ := results_sound htr.wr hs'.er hres hvs
      exact ⟨hs'.defers, c, hrun, j', c, htr, hv, rfl⟩
    · simp at hr
  · simp at hr

/-- nothing was written: the caller's heap is as it was -/
theorem quiet_trans {j j0 j' : JM} {H H0 H' : Heap} {w w' : World} (hw : WR j H w) (hno : ∀ k, ¬ Own j0 H0 k) (htr : Trans j0 H0 w j' H' w') : Trans j H w j H w' := by
  have hheap : ∀ k, k < w.heap.size → w'.heap[k]? = w.heap[k]? := fun k hk => htr.keep k hk (hno k)
  have hwr : WR j H w' := hw.of_heap htr.size (fun b cs loc hb hj => by
    obtain ⟨loc', hj', hlt, _⟩ := hw.cell b cs hb
    rw [hj] at hj'
    obtain rfl := Option.some.inj hj'
    exact hheap _ hlt)
  exact ⟨Ext.refl j, hwr, rfl, Nat.le_refl _, htr.os, htr.tape, htr.output, htr.size, fun k hk _ => hheap k hk, fun k hk h => h⟩

theorem no_own_frz {j : JM} {H : Heap} {w : World} (hw : WR j H w) (k : Nat) : ¬ Own j H.frz k := by
  rintro ⟨b, cs, loc, hr, hb, _, _⟩
  have := hw.hdom b cs hb
  simp at hr
  omega

theorem no_own_empty (k : Nat) : ¬ Own (fun _ => none) Heap.empty k := by
  rintro ⟨b, cs, loc, hr, hb, _, _⟩
  simp at hb

theorem newSl_sound {j j' : JM} {H H' H2 : Heap} {w w' : World} {size : Nat} {v v2 : AV} {c : Value} (hw : WR j H w) (htr : Trans j H.frz w j' H' w') (hv : VR j' v c) (h : newSl H size H' v = some (v2, H2)) :
    ∃ j2, Trans j H w j2 H2 w' ∧ VR j2 v2 c := by
  have hq := quiet_trans hw (no_own_frz hw) htr
  unfold newSl at h
  split at h
  · simp only [Option.some.injEq, Prod.mk.injEq] at h
    obtain ⟨rfl, rfl⟩ := h
    exact ⟨j, hq, hv⟩
  · rename_i b off len z
    obtain ⟨hb, h⟩ := bif_some h
    simp only [Bool.and_eq_true, decide_eq_true_eq, Nat.beq_eq] at hb
    obtain ⟨hnb, rfl⟩ := hb
    split at h
    · rename_i cs hcs
      obtain ⟨hsc, h⟩ := bif_some h
      simp only [Option.some.injEq, Prod.mk.injEq] at h
      obtain ⟨rfl, rfl⟩ := h
      obtain ⟨loc, cap', hl, hle, hext, hex, he⟩ := hv
      obtain ⟨L, hL, hbd, rfl⟩ := loadAt_some hcs
      obtain ⟨loc', hl', hlt, hLe, hcell⟩ := htr.wr.cell b L hL
      rw [hl] at hl'
      obtain rfl := Option.some.inj hl'
      have hro : H'.ro ≤ b := by rw [htr.ro]; simpa using hnb
      have hown := htr.wr.own b L loc hro hL hl
      have hblk : w.heap.size ≤ loc.blk := by
        rcases Nat.lt_or_ge loc.blk w.heap.size with h1 | h1
        · exact absurd (htr.grow _ h1 ⟨b, L, loc, hro, hL, hl, rfl⟩) (no_own_frz hw _)
        · exact h1
      have hjext := upd_ext hw ⟨loc.blk, loc.off + off, cap' * z⟩
      have hlen : ((L.drop off).take (len * z)).length = len * z := by simp; omega
      have hmul : len * z ≤ cap' * z := Nat.mul_le_mul_right _ hle
      have gold : ∀ b' cs', b' ≠ H.next → (H.push ((L.drop off).take (len * z))).get b' = some cs' → H.get b' = some cs' := by
        intro b' cs' hne hb'
        simpa [hne] using hb'
      have jold : ∀ b', b' ≠ H.next → upd j H.next ⟨loc.blk, loc.off + off, cap' * z⟩ b' = j b' := fun b' hne => by simp [upd, hne]
      have hold : ∀ b' cs' loc', H.get b' = some cs' → j b' = some loc' → loc'.blk < w.heap.size := by
        intro b' cs' loc' hb' hj'
        obtain ⟨l2, h2, h3, _⟩ := hw.cell b' cs' hb'
        rw [hj'] at h2
        obtain rfl := Option.some.inj h2
        exact h3
      refine ⟨upd j H.next ⟨loc.blk, loc.off + off, cap' * z⟩, ⟨hjext, ⟨?_, ?_, ?_, ?_, ?_⟩, rfl, by simp, hq.os, hq.tape, hq.output, hq.size, hq.keep, ?_⟩, ?_⟩
      · intro b' loc' hb'
        simp only [upd] at hb'
        split at hb'
        · simp; omega
        · have := hw.dom b' loc' hb'; simp; omega
      · intro b' cs' hb'
        by_cases hne : b' = H.next
        · simp; omega
        · have := hw.hdom b' cs' (gold b' cs' hne hb'); simp; omega
      · intro b' cs' hb'
        by_cases hne : b' = H.next
        · subst hne
          simp only [Heap.get_push, if_true, Option.some.injEq] at hb'
          subst hb'
          refine ⟨_, upd_same .., hlt, by rw [hlen]; exact hmul, fun i x hx => ?_⟩
          have hxi : i < len * z := by
            rcases Nat.lt_or_ge i (len * z) with h1 | h1
            · exact h1
            · rw [List.getElem?_eq_none (by omega)] at hx; simp at hx
          have hmem : x ∈ (L.drop off).take (len * z) := List.mem_of_getElem? hx
          have hxs : x.scalar = true := by
            have := List.all_eq_true.1 hsc x hmem
            exact this
          rw [List.getElem?_take, if_pos hxi, List.getElem?_drop] at hx
          obtain ⟨c0, h1, h2⟩ := hcell _ x hx
          exact ⟨c0, by rw [Nat.add_assoc]; exact h1, VR.scalar hxs h2⟩
        · obtain ⟨l2, h2, h3, h4, h5⟩ := hq.wr.cell b' cs' (gold b' cs' hne hb')
          exact ⟨l2, by rw [jold b' hne]; exact h2, h3, h4, fun i x hx => by
            obtain ⟨c0, h6, h7⟩ := h5 i x hx
            exact ⟨c0, h6, VR.mono hjext h7⟩⟩
      · intro b' cs' loc' hr hb' hj' i hi
        by_cases hne : b' = H.next
        · subst hne
          rw [upd_same] at hj'
          obtain rfl := Option.some.inj hj'
          simp only at hi ⊢
          have := hown (off + i) (by omega)
          rwa [← Nat.add_assoc] at this
        · rw [jold b' hne] at hj'
          exact hq.wr.own b' cs' loc' (by simpa using hr) (gold b' cs' hne hb') hj' i hi
      · intro b1 b2 cs1 cs2 l1 l2 hr hne h1 h2 hj1 hj2
        by_cases n1 : b1 = H.next
        · have n2 : b2 ≠ H.next := fun e' => hne (n1.trans e'.symm)
          rw [n1, upd_same] at hj1
          rw [jold b2 n2] at hj2
          obtain rfl := Option.some.inj hj1
          have := hold b2 cs2 l2 (gold b2 cs2 n2 h2) hj2
          simp only
          omega
        · rw [jold b1 n1] at hj1
          have a1 := hold b1 cs1 l1 (gold b1 cs1 n1 h1) hj1
          by_cases n2 : b2 = H.next
          · rw [n2, upd_same] at hj2
            obtain rfl := Option.some.inj hj2
            simp only
            omega
          · rw [jold b2 n2] at hj2
            exact hw.apart b1 b2 cs1 cs2 l1 l2 (by simpa using hr) hne (gold b1 cs1 n1 h1) (gold b2 cs2 n2 h2) hj1 hj2
      · rintro k hk ⟨b', cs', loc', hr, hb', hj', rfl⟩
        by_cases hne : b' = H.next
        · subst hne
          rw [upd_same] at hj'
          obtain rfl := Option.some.inj hj'
          simp only at hk
          omega
        · rw [jold b' hne] at hj'
          exact ⟨b', cs', loc', by simpa using hr, gold b' cs' hne hb', hj', rfl⟩
      · refine ⟨_, cap', upd_same .., hle, by simp, by simp, ?_⟩
        simpa using he
    · simp at h
  · simp at h

/-- what is known of calls is so -/
def GoodS (P : Program) (sp : Nat → List AV → Option AV) : Prop := ∀ f args v, sp f args = some v →
  (∀ (l : Array Value) (w : World), (callFunc f l).run P w = .ok (.enter f l) w) ∧ ∀ (j : JM) (H : Heap) (w : World) (l : List Value), WR j H w → VRs j args l → Calls P f l.toArray w (FnPost j H w v H)

structure GoodTab (P : Program) (md : Nat → Nat) (T : Tab) : Prop where
  fn : GoodT P md T.fn
  sp : GoodS P T.sp

theorem evF_sound {md : Nat → Nat} {T : Tab} (hG : GoodTab P md T) (hmix : P.follows .mixedOrders = true) : ∀ n, CallOk P (evF T n) ∧ CallCls (evF T n) md ∧ CallMono (evF T n)
  | 0 => ⟨fun f vs H v H' h => by simp [evF] at h, fun f args h v h' hr => by simp [evF] at hr, fun f args h v h' hr => by simp [evF] at hr⟩
  | n + 1 => by
    obtain ⟨ihc, ihm, iho⟩ := evF_sound hG hmix n
    have hT := hG.fn
    refine ⟨?_, ?_, ?_⟩
    · intro f vs H v H' h j w l hw hl
      simp only [evF] at h
      split at h
      · rename_i v0 hsp
        simp only [Option.some.injEq, Prod.mk.injEq] at h
        obtain ⟨rfl, rfl⟩ := h
        obtain ⟨s1, s2⟩ := hG.sp _ _ _ hsp
        exact ⟨fun w => s1 _ w, s2 j _ w l hw hl⟩
      unfold evT at h
      split at h
      · simp at h
      rename_i F hF
      have hgood := (hT f F hF).2
      obtain ⟨fn, code, hf, hb, hn, _, _⟩ := hgood
      refine ⟨fun w => run_callFunc hf hb hn _ w, ?_⟩
      have hgood := (hT f F hF).2
      split at h
      · exact body_sound ihc ihm iho hmix hgood hw hl h
      · split at h
        · rename_i u h1 hev
          obtain ⟨hfree, h⟩ := bif_some h
          simp only [Option.some.injEq, Prod.mk.injEq] at h
          obtain ⟨rfl, rfl⟩ := h
          refine (body_sound ihc ihm iho hmix hgood hw.frz hl hev).mono ?_
          rintro en w' ⟨j', c, htr, hv, rfl⟩
          exact ⟨j, c, quiet_trans hw (no_own_frz hw) htr, VR.frees hfree hv, rfl⟩
        · simp at h
      · obtain ⟨hafree, h⟩ := bif_some h
        split at h
        · rename_i u h1 hev
          obtain ⟨hfree, h⟩ := bif_some h
          simp only [Option.some.injEq, Prod.mk.injEq] at h
          obtain ⟨rfl, rfl⟩ := h
          refine (body_sound ihc ihm iho hmix hgood (WR.empty w) (VRs.allFree hafree hl) hev).mono ?_
          rintro en w' ⟨j', c, htr, hv, rfl⟩
          exact ⟨j, c, quiet_trans hw no_own_empty htr, VR.frees hfree hv, rfl⟩
        · simp at h
      · split at h
        · rename_i u h1 hev
          refine (body_sound ihc ihm iho hmix hgood hw.frz hl hev).mono ?_
          rintro en w' ⟨j', c, htr, hv, rfl⟩
          obtain ⟨j2, h2, h3⟩ := newSl_sound hw htr hv h
          exact ⟨j2, c, h2, h3, rfl⟩
        · simp at h
      · simp at h
    · intro f args h v h' hr
      simp only [evF] at hr
      split at hr
      · rename_i v0 hsp
        simp only [Option.some.injEq, Prod.mk.injEq] at hr
        obtain ⟨rfl, rfl⟩ := hr
        exact ⟨fun _ => ⟨rfl, fun h2 => by simp only [evF, hsp]⟩, fun _ => rfl⟩
      rename_i hsp
      unfold evT at hr
      split at hr
      · simp at hr
      rename_i F hF
      rw [← (hT f F hF).1]
      refine ⟨fun hm => ?_, fun hm => ?_⟩
      · rw [hm] at hr
        simp only at hr
        obtain ⟨hafree, hr⟩ := bif_some hr
        split at hr
        · rename_i u h1 hev
          obtain ⟨hfree, hr⟩ := bif_some hr
          simp only [Option.some.injEq, Prod.mk.injEq] at hr
          obtain ⟨rfl, rfl⟩ := hr
          refine ⟨rfl, fun h2 => ?_⟩
          simp only [evF, evT, hsp, hF, hm, hafree, cond_true, hev, hfree]
        · simp at hr
      · rw [hm] at hr
        simp only at hr
        split at hr
        · obtain ⟨_, hr⟩ := bif_some hr
          simp only [Option.some.injEq, Prod.mk.injEq] at hr
          exact hr.2.symm
        · simp at hr
    · intro f args h v h' hr
      simp only [evF] at hr
      split at hr
      · simp only [Option.some.injEq, Prod.mk.injEq] at hr
        rw [hr.2]; exact Mono.refl _
      unfold evT at hr
      split at hr
      · simp at hr
      split at hr
      · exact mono_body ihm iho hr
      · split at hr
        · obtain ⟨_, hr⟩ := bif_some hr
          simp only [Option.some.injEq, Prod.mk.injEq] at hr
          rw [hr.2]; exact Mono.refl _
        · simp at hr
      · obtain ⟨_, hr⟩ := bif_some hr
        split at hr
        · obtain ⟨_, hr⟩ := bif_some hr
          simp only [Option.some.injEq, Prod.mk.injEq] at hr
          rw [hr.2]; exact Mono.refl _
        · simp at hr
      · split at hr
        · unfold newSl at hr
          split at hr
          · simp only [Option.some.injEq, Prod.mk.injEq] at hr
            rw [hr.2]; exact Mono.refl _
          · obtain ⟨_, hr⟩ := bif_some hr
            split at hr
            · obtain ⟨_, hr⟩ := bif_some hr
              simp only [Option.some.injEq, Prod.mk.injEq] at hr
              obtain ⟨_, rfl⟩ := hr
              exact Mono.push _ _
            · simp at hr
          · simp at hr
        · simp at hr
      · simp at hr

/-- THE SOUNDNESS of the evaluator -/
theorem sound {md : Nat → Nat} {T : Tab} (hT : GoodTab P md T) (hmix : P.follows .mixedOrders = true) {n f : Nat} {args : List AV} {H H' : Heap} {v : AV} (h : evF T n f args H = some (v, H'))
    {j : JM} {w : World} {l : List Value} (hw : WR j H w) (hl : VRs j args l) : Calls P f l.toArray w (FnPost j H w v H') :=
  (((evF_sound hT hmix n).1) f args H v H' h j w l hw hl).2

end
end Go.Ev
