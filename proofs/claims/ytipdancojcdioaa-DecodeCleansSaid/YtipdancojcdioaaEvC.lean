/- Memory operations of the abstract evaluator against the loaded memory. -/
import Derived.Test.YtipdancojcdioaaEvB
namespace Go.Ev
set_option linter.unusedVariables false
set_option linter.unusedSimpArgs false
open Go

theorem add_lit (b o n : Nat) : Addr.add ⟨b, o, none⟩ n = ⟨b, o + n, none⟩ := Addr.add_lit b o n

theorem exists_list {j : JM} {f : Nat → Option Value} : ∀ (cs : List AV) (k : Nat), (∀ (i : Nat) (x : AV), cs[i]? = some x → ∃ c, f (k + i) = some c ∧ VR j x c) →
    ∃ l, VRs j cs l ∧ ∀ (i : Nat) (v : Value), l[i]? = some v → f (k + i) = some v
  | [], _, _ => ⟨[], rfl, fun i v h => by simp at h⟩
  | x :: xs, k, h => by
    obtain ⟨c, h1, h2⟩ := h 0 x rfl
    obtain ⟨l, h3, h4⟩ := exists_list xs (k + 1) (fun i y hy => by
      have := h (i + 1) y (by simpa using hy)
      rwa [show k + (i + 1) = k + 1 + i by omega] at this)
    refine ⟨c :: l, ⟨c, l, rfl, h2, h3⟩, fun i v hv => ?_⟩
    cases i with
    | zero => simp only [List.getElem?_cons_zero, Option.some.injEq] at hv; subst hv; exact h1
    | succ i =>
      have := h4 i v (by simpa using hv)
      rwa [show k + (i + 1) = k + 1 + i by omega]

theorem loadAt_some {H : Heap} {b off n : Nat} {cs : List AV} (h : loadAt H b off n = some cs) :
    ∃ L, H.get b = some L ∧ off + n ≤ L.length ∧ cs = (L.drop off).take n := by
  unfold loadAt at h
  split at h
  · rename_i L hL
    simp only [cond_eq_ite, decide_eq_true_eq] at h
    split at h
    · rename_i hle; exact ⟨L, hL, hle, (Option.some.inj h).symm⟩
    · simp at h
  · simp at h

theorem loadAt_length {H : Heap} {b off n : Nat} {cs : List AV} (h : loadAt H b off n = some cs) : cs.length = n := by
  obtain ⟨L, _, hle, rfl⟩ := loadAt_some h
  simp; omega

/-- what is read -/
theorem load_sound {P : Program} {j : JM} {H : Heap} {w : World} (hw : WR j H w) {b off n : Nat} {cs : List AV} {loc : Loc}
    (h : loadAt H b off n = some cs) (hj : j b = some loc) :
    ∃ l, VRs j cs l ∧ (loadCells ⟨loc.blk, loc.off + off, none⟩ n).run P w = .ok l.toArray w ∧ (∀ (i : Nat) (v : Value), l[i]? = some v → w.cell? ⟨loc.blk, loc.off + off + i, none⟩ = some v) := by
  obtain ⟨L, hL, hle, rfl⟩ := loadAt_some h
  obtain ⟨loc', hj', _, _, hc⟩ := hw.cell b L hL
  rw [hj] at hj'
  obtain rfl := Option.some.inj hj'
  obtain ⟨l, hl, hf⟩ := exists_list (j := j) (f := fun i => w.cell? ⟨loc.blk, loc.off + off + i, none⟩) ((L.drop off).take n) 0 (fun i x hx => by
    have hx' : L[off + i]? = some x := by
      rw [List.getElem?_take] at hx
      split at hx
      · rw [List.getElem?_drop] at hx; exact hx
      · simp at hx
    obtain ⟨c, h1, h2⟩ := hc (off + i) x hx'
    exact ⟨c, by rw [Nat.zero_add, Nat.add_assoc]; exact h1, h2⟩)
  have hlen : l.length = n := by rw [VRs.length hl]; simp; omega
  refine ⟨l, hl, ?_, fun i v hv => by simpa using hf i v hv⟩
  rw [← hlen]
  refine run_loadCells_list w _ l (fun i v hv => ?_)
  have := hf i v hv
  rw [add_lit]
  simpa using this

/-- one cell that is written -/
theorem run_store_cell {P : Program} {w : World} {blk off : Nat} {v c : Value} (hv : v.oneCell' = true) (hc : w.cell? ⟨blk, off, none⟩ = some c)
    (hf : w.frozen? ⟨blk, off, none⟩ = false) : (store ⟨blk, off, none⟩ v).run P w = .ok () (w.setCell ⟨blk, off, none⟩ v) := by
  rw [run_store P w _ v _ hv]
  simp [hc, hf]

theorem run_storeCells {P : Program} (blk off : Nat) : ∀ (vs : List Value) (i : Nat) (w : World),
    (∀ k, k < vs.length → (∃ c, w.cell? ⟨blk, off + i + k, none⟩ = some c) ∧ w.frozen? ⟨blk, off + i + k, none⟩ = false) →
    (∀ v ∈ vs, v.oneCell' = true) →
    ∃ w', (storeCells ⟨blk, off, none⟩ vs i).run P w = .ok () w' ∧ w'.heap.size = w.heap.size ∧ w'.os = w.os ∧ w'.tape = w.tape ∧ w'.output = w.output ∧
      (∀ k, k ≠ blk → w'.heap[k]? = w.heap[k]?) ∧ (∀ a, w'.frozen? a = w.frozen? a) ∧
      (∀ o, w'.cell? ⟨blk, o, none⟩ = if off + i ≤ o ∧ o < off + i + vs.length then vs[o - (off + i)]? else w.cell? ⟨blk, o, none⟩)
  | [], i, w, _, _ => ⟨w, by simp [storeCells], rfl, rfl, rfl, rfl, fun _ _ => rfl, fun _ => rfl, fun o => by rw [if_neg (by simp)]⟩
  | v :: vs, i, w, h, hv => by
    obtain ⟨⟨c, hc⟩, hf⟩ := h 0 (by simp)
    simp only [Nat.add_zero] at hc hf
    have h1 := run_store_cell (P := P) (hv v (by simp)) hc hf
    obtain ⟨w', r, e1, e2, e3, e4, e5, e6, e7⟩ := run_storeCells (P := P) blk off vs (i + 1) (w.setCell ⟨blk, off + i, none⟩ v) (fun k hk => by
      obtain ⟨⟨c', hc'⟩, hf'⟩ := h (k + 1) (by simp; omega)
      rw [show off + i + (k + 1) = off + (i + 1) + k by omega] at hc' hf'
      refine ⟨⟨c', ?_⟩, by rw [World.frozen?_setCell]; exact hf'⟩
      rw [World.cell?_setCell_other _ _ _ _ (by simp; omega)]
      exact hc') (fun u hu => hv u (by simp [hu]))
    refine ⟨w', ?_, by rw [e1]; simp, e2, e3, e4, fun k hk => by rw [e5 k hk, RowKit.Below.heap_setCell _ _ _ _ hk], fun a => by rw [e6, World.frozen?_setCell], fun o => ?_⟩
    · simp only [storeCells, add_lit, Sem.run_bind, h1, Result.andThen_ok]
      exact r
    · rw [e7]
      by_cases ho : o = off + i
      · subst ho
        rw [if_neg (by omega), if_pos (by simp)]
        simp [World.cell?_setCell_same _ _ _ hc]
      · rw [World.cell?_setCell_other _ _ _ _ (by simp; omega)]
        by_cases hin : off + (i + 1) ≤ o ∧ o < off + (i + 1) + vs.length
        · rw [if_pos hin, if_pos (by simp; omega)]
          rw [show o - (off + i) = (o - (off + (i + 1))) + 1 by omega]
          simp
        · rw [if_neg hin, if_neg (by simp; omega)]

theorem storeAt_some {H H' : Heap} {b off : Nat} {vs : List AV} (h : storeAt H b off vs = some H') :
    ∃ L, H.ro ≤ b ∧ vs.all AV.one = true ∧ H.get b = some L ∧ off + vs.length ≤ L.length ∧ H' = H.setTo b (some (L.take off ++ (vs ++ L.drop (off + vs.length)))) := by
  unfold storeAt at h
  simp only [cond_eq_ite, Bool.and_eq_true, decide_eq_true_eq] at h
  split at h
  · rename_i hh
    split at h
    · rename_i L hL
      split at h
      · rename_i hle; exact ⟨L, hh.1, hh.2, hL, hle, (Option.some.inj h).symm⟩
      · simp at h
    · simp at h
  · simp at h

theorem VRs.ones {j : JM} : ∀ {vs : List AV} {l : List Value}, VRs j vs l → vs.all AV.one = true → ∀ v ∈ l, v.oneCell' = true
  | [], _, r, _, v, hv => by simp only [VRs] at r; subst r; simp at hv
  | _ :: _, _, ⟨c, cs, a, b, d⟩, h, v, hv => by
    subst a
    simp only [List.all_cons, Bool.and_eq_true] at h
    rcases List.mem_cons.1 hv with e | e
    · subst e; exact VR.one b h.1
    · exact VRs.ones d h.2 v e

/-- what is written -/
theorem store_sound {P : Program} {j : JM} {H H' : Heap} {w : World} (hw : WR j H w) {b off : Nat} {vs : List AV} {l : List Value} {loc : Loc}
    (h : storeAt H b off vs = some H') (hj : j b = some loc) (hl : VRs j vs l) :
    ∃ w', (storeCells ⟨loc.blk, loc.off + off, none⟩ l).run P w = .ok () w' ∧ Trans j H w j H' w' := by
  obtain ⟨L, hro, hone, hL, hle, rfl⟩ := storeAt_some h
  have hlen := VRs.length hl
  obtain ⟨loc', hj', hlt, hext, hc⟩ := hw.cell b L hL
  rw [hj] at hj'
  obtain rfl := Option.some.inj hj'
  have hown := hw.own b L loc hro hL hj
  obtain ⟨w', r, e1, e2, e3, e4, e5, e6, e7⟩ := run_storeCells (P := P) loc.blk (loc.off + off) l 0 w (fun k hk => by
    have := hown (off + k) (by omega)
    simpa [Nat.add_assoc] using this) (VRs.ones hl hone)
  refine ⟨w', r, Ext.refl j, ⟨hw.dom, ?_, ?_, ?_, ?_⟩, rfl, Nat.le_refl _, e2, e3, e4, by omega, ?_, ?_⟩
  · intro b' cs hb'
    simp only [Heap.get_setTo] at hb'
    split at hb'
    · rename_i e; subst e; exact hw.hdom b' L hL
    · exact hw.hdom b' cs hb'
  · intro b' cs hb'
    simp only [Heap.get_setTo] at hb'
    split at hb'
    · rename_i e
      subst e
      obtain rfl := Option.some.inj hb'
      refine ⟨loc, hj, by omega, by simp; omega, fun i x hx => ?_⟩
      rw [e7]
      by_cases h1 : i < off
      · rw [List.getElem?_append_left (by simp; omega), List.getElem?_take, if_pos h1] at hx
        obtain ⟨c, h2, h3⟩ := hc i x hx
        exact ⟨c, by rw [if_neg (by omega)]; exact h2, h3⟩
      · rw [List.getElem?_append_right (by simp; omega)] at hx
        have hto : (L.take off).length = off := by simp; omega
        rw [hto] at hx
        by_cases h2 : i < off + vs.length
        · rw [List.getElem?_append_left (by omega)] at hx
          obtain ⟨c, h3, h4⟩ := VRs.get hl _ x hx
          refine ⟨c, ?_, h4⟩
          rw [if_pos (by omega), ← h3]
          congr 1; omega
        · rw [List.getElem?_append_right (by omega), List.getElem?_drop] at hx
          obtain ⟨c, h3, h4⟩ := hc _ x hx
          refine ⟨c, ?_, h4⟩
          rw [if_neg (by omega), ← h3]
          congr 2; omega
    · rename_i e
      obtain ⟨loc2, hj2, hlt2, hext2, hc2⟩ := hw.cell b' cs hb'
      have hne : loc2.blk ≠ loc.blk := (hw.apart b b' L cs loc loc2 hro (Ne.symm e) hL hb' hj hj2).symm
      refine ⟨loc2, hj2, by omega, hext2, fun i x hx => ?_⟩
      obtain ⟨c, h1, h2⟩ := hc2 i x hx
      exact ⟨c, by rw [cell?_of_heap (e5 _ hne)]; exact h1, h2⟩
  · intro b' cs loc2 hr hb' hj2 i hi
    simp only [Heap.get_setTo] at hb'
    split at hb'
    · rename_i e
      subst e
      rw [hj] at hj2
      obtain rfl := Option.some.inj hj2
      obtain ⟨⟨c, h1⟩, h2⟩ := hown i hi
      refine ⟨?_, by rw [e6]; exact h2⟩
      rw [e7]
      split
      · rename_i hin
        exact ⟨l[loc.off + i - (loc.off + off + 0)]'(by omega), List.getElem?_eq_getElem (by omega)⟩
      · exact ⟨c, h1⟩
    · rename_i e
      have hne : loc2.blk ≠ loc.blk := (hw.apart b b' L cs loc loc2 hro (Ne.symm e) hL hb' hj hj2).symm
      obtain ⟨h1, h2⟩ := hw.own b' cs loc2 hr hb' hj2 i hi
      exact ⟨by rw [cell?_of_heap (e5 _ hne)]; exact h1, by rw [e6]; exact h2⟩
  · intro b1 b2 cs1 cs2 loc1 loc2 hr hne h1 h2 hj1 hj2
    have get' : ∀ b' cs, (H.setTo b (some (L.take off ++ (vs ++ L.drop (off + vs.length))))).get b' = some cs → ∃ cs', H.get b' = some cs' := by
      intro b' cs hb'
      simp only [Heap.get_setTo] at hb'
      split at hb'
      · rename_i e; subst e; exact ⟨L, hL⟩
      · exact ⟨cs, hb'⟩
    obtain ⟨c1, g1⟩ := get' b1 cs1 h1
    obtain ⟨c2, g2⟩ := get' b2 cs2 h2
    exact hw.apart b1 b2 c1 c2 loc1 loc2 hr hne g1 g2 hj1 hj2
  · intro k hk hn
    refine e5 k (fun e => hn ?_)
    subst e
    exact ⟨b, L, loc, hro, hL, hj, rfl⟩
  · rintro k hk ⟨b', cs, loc2, hr, hb', hj2, rfl⟩
    simp only [Heap.get_setTo] at hb'
    split at hb'
    · rename_i e; subst e; exact ⟨b', L, loc2, hr, hL, hj2, rfl⟩
    · exact ⟨b', cs, loc2, hr, hb', hj2, rfl⟩

/-- a block that is done with -/
theorem Trans.kill {j : JM} {H : Heap} {w : World} (hw : WR j H w) (b : Nat) : Trans j H w j (H.setTo b none) w := by
  have g : ∀ b' cs, (H.setTo b none).get b' = some cs → H.get b' = some cs := by
    intro b' cs h
    simp only [Heap.get_setTo] at h
    split at h
    · simp at h
    · exact h
  refine ⟨Ext.refl j, ⟨hw.dom, fun b' cs h => hw.hdom b' cs (g b' cs h), fun b' cs h => hw.cell b' cs (g b' cs h), fun b' cs loc hr h => hw.own b' cs loc hr (g b' cs h),
    fun b1 b2 c1 c2 l1 l2 hr hne h1 h2 => hw.apart b1 b2 c1 c2 l1 l2 hr hne (g _ _ h1) (g _ _ h2)⟩, rfl, Nat.le_refl _, rfl, rfl, rfl, Nat.le_refl _, fun _ _ _ => rfl, ?_⟩
  rintro k hk ⟨b', cs, loc, hr, hb, hj, e⟩
  exact ⟨b', cs, loc, hr, g _ _ hb, hj, e⟩

/-- an append that finds room: its cells go on in the block that it was called with, which is done with -/
theorem Trans.inplace {P : Program} {j : JM} {H : Heap} {w : World} (hw : WR j H w) {b off m : Nat} {old new : List AV} {lnew : List Value} {loc : Loc} {e : Nat}
    (hro : H.ro ≤ b) (h : loadAt H b off m = some old) (hj : j b = some loc) (hl : VRs j new lnew) (hone : new.all AV.one = true)
    (hm : m + new.length ≤ e) (he : off + e ≤ loc.ext) :
    ∃ w', (storeCells ⟨loc.blk, loc.off + off + m, none⟩ lnew).run P w = .ok () w' ∧
      Trans j H w (upd j H.next ⟨loc.blk, loc.off + off, e⟩) ((H.setTo b none).push (old ++ new)) w' := by
  obtain ⟨L, hL, hle, rfl⟩ := loadAt_some h
  have hlen := VRs.length hl
  obtain ⟨loc', hj', hlt, hext, hc⟩ := hw.cell b L hL
  rw [hj] at hj'
  obtain rfl := Option.some.inj hj'
  have hown := hw.own b L loc hro hL hj
  obtain ⟨w', r, e1, e2, e3, e4, e5, e6, e7⟩ := run_storeCells (P := P) loc.blk (loc.off + off + m) lnew 0 w (fun k hk => by
    have := hown (off + m + k) (by omega)
    simpa [Nat.add_assoc] using this) (VRs.ones hl hone)
  have hex := upd_ext hw ⟨loc.blk, loc.off + off, e⟩
  have hbn : b < H.next := hw.hdom b L hL
  have gold : ∀ b' cs, b' ≠ H.next → ((H.setTo b none).push ((L.drop off).take m ++ new)).get b' = some cs → b' ≠ b ∧ H.get b' = some cs := by
    intro b' cs hne hb'
    simp only [Heap.get_push, Heap.next_setTo, hne, if_false, Heap.get_setTo] at hb'
    split at hb'
    · simp at hb'
    · rename_i e'; exact ⟨e', hb'⟩
  have jold : ∀ b', b' ≠ H.next → upd j H.next ⟨loc.blk, loc.off + off, e⟩ b' = j b' := fun b' hne => by simp [upd, hne]
  have jnew : upd j H.next ⟨loc.blk, loc.off + off, e⟩ H.next = some ⟨loc.blk, loc.off + off, e⟩ := by simp [upd]
  refine ⟨w', r, hex, ⟨?_, ?_, ?_, ?_, ?_⟩, rfl, by simp, e2, e3, e4, by omega, ?_, ?_⟩
  · intro b' loc' hb'
    simp only [upd] at hb'
    split at hb'
    · simp; omega
    · have := hw.dom b' loc' hb'; simp; omega
  · intro b' cs hb'
    by_cases hne : b' = H.next
    · simp; omega
    · have := hw.hdom b' cs (gold b' cs hne hb').2; simp; omega
  · intro b' cs hb'
    by_cases hne : b' = H.next
    · subst hne
      simp only [Heap.get_push, Heap.next_setTo, if_true, Option.some.injEq] at hb'
      subst hb'
      refine ⟨_, jnew, by simp only; omega, by simp; omega, fun i x hx => ?_⟩
      simp only
      rw [e7]
      have hto : ((L.drop off).take m).length = m := by simp; omega
      by_cases h1 : i < m
      · rw [List.getElem?_append_left (by omega), List.getElem?_take, if_pos h1, List.getElem?_drop] at hx
        obtain ⟨c, h2, h3⟩ := hc _ x hx
        refine ⟨c, ?_, VR.mono hex h3⟩
        rw [if_neg (by omega), ← h2]
        congr 2; omega
      · rw [List.getElem?_append_right (by omega), hto] at hx
        obtain ⟨c, h2, h3⟩ := VRs.get hl _ x hx
        refine ⟨c, ?_, VR.mono hex h3⟩
        have hi : i - m < lnew.length := by
          rcases Nat.lt_or_ge (i - m) lnew.length with hlt' | hge
          · exact hlt'
          · rw [List.getElem?_eq_none hge] at h2; simp at h2
        rw [if_pos (by omega), ← h2]
        congr 1; omega
    · obtain ⟨hnb, hb2⟩ := gold b' cs hne hb'
      obtain ⟨loc2, hj2, hlt2, hext2, hc2⟩ := hw.cell b' cs hb2
      have hneq : loc2.blk ≠ loc.blk := (hw.apart b b' L cs loc loc2 hro (Ne.symm hnb) hL hb2 hj hj2).symm
      refine ⟨loc2, by rw [jold b' hne]; exact hj2, by omega, hext2, fun i x hx => ?_⟩
      obtain ⟨c, h1, h2⟩ := hc2 i x hx
      exact ⟨c, by rw [cell?_of_heap (e5 _ hneq)]; exact h1, VR.mono hex h2⟩
  · intro b' cs loc2 hr hb' hj2 i hi
    by_cases hne : b' = H.next
    · subst hne
      rw [jnew] at hj2
      obtain rfl := Option.some.inj hj2
      simp only at hi ⊢
      obtain ⟨⟨c, h1⟩, h2⟩ := hown (off + i) (by omega)
      rw [show loc.off + (off + i) = loc.off + off + i by omega] at h1 h2
      refine ⟨?_, by rw [e6]; exact h2⟩
      rw [e7]
      split
      · rename_i hin
        exact ⟨lnew[loc.off + off + i - (loc.off + off + m + 0)]'(by omega), List.getElem?_eq_getElem (by omega)⟩
      · exact ⟨c, h1⟩
    · obtain ⟨hnb, hb2⟩ := gold b' cs hne hb'
      rw [jold b' hne] at hj2
      have hneq : loc2.blk ≠ loc.blk := (hw.apart b b' L cs loc loc2 hro (Ne.symm hnb) hL hb2 hj hj2).symm
      obtain ⟨h1, h2⟩ := hw.own b' cs loc2 (by simpa using hr) hb2 hj2 i hi
      exact ⟨by rw [cell?_of_heap (e5 _ hneq)]; exact h1, by rw [e6]; exact h2⟩
  · intro b1 b2 cs1 cs2 loc1 loc2 hr hne h1 h2 hj1 hj2
    have hr' : H.ro ≤ b1 := by simpa using hr
    by_cases n1 : b1 = H.next
    · have n2 : b2 ≠ H.next := fun e' => hne (n1.trans e'.symm)
      obtain ⟨hnb, g2⟩ := gold b2 cs2 n2 h2
      rw [n1, jnew] at hj1
      rw [jold b2 n2] at hj2
      obtain rfl := Option.some.inj hj1
      exact hw.apart b b2 L cs2 loc loc2 hro (Ne.symm hnb) hL g2 hj hj2
    · obtain ⟨hnb, g1⟩ := gold b1 cs1 n1 h1
      rw [jold b1 n1] at hj1
      by_cases n2 : b2 = H.next
      · rw [n2, jnew] at hj2
        obtain rfl := Option.some.inj hj2
        exact (hw.apart b b1 L cs1 loc loc1 hro (Ne.symm hnb) hL g1 hj hj1).symm
      · obtain ⟨_, g2⟩ := gold b2 cs2 n2 h2
        rw [jold b2 n2] at hj2
        exact hw.apart b1 b2 cs1 cs2 loc1 loc2 hr' hne g1 g2 hj1 hj2
  · intro k hk hn
    refine e5 k (fun e' => hn ?_)
    subst e'
    exact ⟨b, L, loc, hro, hL, hj, rfl⟩
  · rintro k hk ⟨b', cs, loc2, hr, hb', hj2, rfl⟩
    by_cases hne : b' = H.next
    · subst hne
      rw [jnew] at hj2
      obtain rfl := Option.some.inj hj2
      exact ⟨b, L, loc, hro, hL, hj, rfl⟩
    · obtain ⟨_, g⟩ := gold b' cs hne hb'
      rw [jold b' hne] at hj2
      exact ⟨b', cs, loc2, by simpa using hr, g, hj2, rfl⟩

end Go.Ev
