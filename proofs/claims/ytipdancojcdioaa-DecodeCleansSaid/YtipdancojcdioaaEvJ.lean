/- Each operation of the evaluator against the loaded one (six): len, append, copy, min, max, calls. -/
import Derived.Test.YtipdancojcdioaaEvI
import Derived.Deep.Upon
namespace Go.Ev
set_option linter.unusedVariables false
set_option linter.unusedSimpArgs false
open Go

section
variable {P : Program} {a : Act} {o : Oper} {j : JM} {H H' : Heap} {w : World} {e : Env} {v : AV} {callF : CallF}

theorem lenOf_sound {b : AV} {n : Nat} {c : Value} (h : lenOf b = some n) (hv : VR j b c) : (Builtin.lenOf c).run P w = .ok n w := by
  cases b <;> simp [lenOf] at h <;> subst h
  · simp only [VR] at hv; subst hv; simp [Builtin.lenOf, ByteArray.size]
  · simp only [VR] at hv; subst hv; simp [Builtin.lenOf]
  · obtain ⟨loc, cap', _, _, _, _, rfl | ⟨_, ad, rfl⟩⟩ := hv <;> simp [Builtin.lenOf]

theorem firstCells_sound (hw : WR j H w) {b : AV} {size n k : Nat} {c : Value} {new : List AV} (h : cellsOf H size b = some new) (hn : lenOf b = some n) (hk : k ≤ n) (hv : VR j b c) :
    ∃ l, VRs j (new.take (k * size)) l ∧ (Builtin.firstCells size k c).run P w = .ok l.toArray w := by
  cases b <;> simp only [cellsOf, lenOf, Option.some.injEq] at h hn <;> (try simp at h; done)
  · rename_i st
    obtain ⟨hs, h⟩ := bif_some h
    simp only [Nat.beq_eq] at hs
    subst hs
    obtain rfl := Option.some.inj h
    subst hn
    simp only [VR] at hv
    subst hv
    refine ⟨(st.take k).map fun (b : UInt8) => (Value.int .u8 b.toNat : Value), ?_, ?_⟩
    · rw [Nat.mul_one]
      refine VRs.mk (by simp [bytesOfStr]) (fun i v hi => ?_)
      simp only [bytesOfStr, ← List.map_take, List.getElem?_map, Option.map_eq_some_iff] at hi
      obtain ⟨b, hb, rfl⟩ := hi
      exact ⟨.int .u8 b.toNat, by rw [List.getElem?_map, hb]; rfl, rfl⟩
    · simp only [Builtin.firstCells, Sem.run_pure]
      congr 1
      apply Array.ext'
      simp [ByteArray.data_extract]
  · subst h; subst hn
    simp only [VR] at hv
    subst hv
    exact ⟨[], by simp [VRs], by simp [Builtin.firstCells]⟩
  · rename_i b off ln cap z
    subst hn
    obtain ⟨loc, cap', hl, hle, _, _, he⟩ := hv
    obtain ⟨L, hL, hbd, rfl⟩ := loadAt_some h
    have hmul : k * size ≤ ln * size := Nat.mul_le_mul_right _ hk
    have hld : loadAt H b off (k * size) = some (((L.drop off).take (ln * size)).take (k * size)) := by
      unfold loadAt
      rw [hL]
      simp only [cond_eq_ite, decide_eq_true_eq]
      rw [if_pos (by omega), List.take_take, Nat.min_eq_left hmul]
    obtain ⟨l, hvl, hrun, _⟩ := load_sound (P := P) hw hld hl
    refine ⟨l, hvl, ?_⟩
    rcases he with rfl | ⟨h0, ad, rfl⟩
    · simp [Builtin.firstCells, hrun]
    · have hk0 : k = 0 := by omega
      subst hk0
      have : l = [] := by
        have := VRs.length hvl
        simp at this
        exact this
      subst this
      simp [Builtin.firstCells, loadCells, loadCellsFrom]

theorem cellsOf_length {b : AV} {size n : Nat} {new : List AV} (h : cellsOf H size b = some new) (hn : lenOf b = some n) : new.length = n * size := by
  cases b <;> simp only [cellsOf, lenOf, Option.some.injEq] at h hn <;> (try simp at h; done)
  · obtain ⟨hs, h⟩ := bif_some h
    simp only [Nat.beq_eq] at hs
    subst hs
    obtain rfl := Option.some.inj h
    subst hn
    simp [bytesOfStr]
  · subst h; subst hn; simp
  · subst hn; exact loadAt_length h

theorem growBy_le (newLen : Nat) (h : 256 ≤ newLen) : ∀ r c, Builtin.growBy newLen r c ≤ max c (2 * newLen)
  | 0, c => by simp only [Builtin.growBy]; omega
  | r + 1, c => by
    simp only [Builtin.growBy]
    split
    · omega
    · have := growBy_le newLen h r (c + (c + 768) / 4)
      omega

theorem nextslicecap_le {need cap : Nat} (h : cap < need) : Builtin.nextslicecap need cap ≤ 2 * need := by
  unfold Builtin.nextslicecap
  split
  · omega
  · split
    · omega
    · have := growBy_le need (by omega) 4 cap
      omega

theorem zeroCells_length (z : Array Value) (n : Nat) : (Builtin.zeroCells z n).toList.length = n * z.size := by
  simp [Builtin.zeroCells]

theorem WR.drew (hw : WR j H w) : WR j H w.drew := hw.of_heap (Nat.le_refl _) (fun _ _ _ _ _ => rfl)

theorem src_sound (hw : WR j H w) {b : AV} {size n : Nat} {c : Value} {new : List AV} {u : TypeId} (h : cellsOf H size b = some new) (hn : lenOf b = some n) (hone : new.all AV.one = true) (hv : VR j b c)
    (hu : (∃ q, P.underlying u = some (.slice q)) ∨ P.underlying u = some .string) : ∃ l, VRs j new l ∧ Src P size u c n l w := by
  have hlen := cellsOf_length h hn
  obtain ⟨l, h1, h2⟩ := firstCells_sound (P := P) hw h hn (Nat.le_refl _) hv
  have htk : new.take (n * size) = new := List.take_of_length_le (by omega)
  rw [htk] at h1
  refine ⟨l, h1, hu, fun w' => lenOf_sound hn hv, h2, ?_, by rw [VRs.length h1, hlen], VRs.ones h1 hone⟩
  obtain ⟨l', h3, h4⟩ := firstCells_sound (P := P) (WR.drew hw) h hn (Nat.le_refl _) hv
  rw [htk] at h3
  have key : l' = l := by
    cases b <;> simp only [cellsOf, lenOf, Option.some.injEq] at h hn <;> (try simp at h; done)
    · simp only [VR] at hv; subst hv
      simp only [Builtin.firstCells, Sem.run_pure, Result.ok.injEq] at h2 h4
      exact List.toArray_inj (h4.1.symm.trans h2.1)
    · subst h
      simp only [VRs] at h1 h3
      rw [h1, h3]
    · rename_i bb off ln cap z
      obtain ⟨loc, cap', hl, hle, _, _, he⟩ := hv
      obtain ⟨l0, _, hrun, hcell⟩ := load_sound (P := P) hw h hl
      obtain ⟨l1, hv1, hrun1, hcell1⟩ := load_sound (P := P) (WR.drew hw) h hl
      have hlen0 : l.length = new.length := VRs.length h1
      have hlen1 : l'.length = new.length := VRs.length h3
      rcases he with rfl | ⟨h0, ad, rfl⟩
      · subst hn
        simp only [Builtin.firstCells] at h2 h4
        rw [hrun] at h2
        rw [hrun1] at h4
        simp only [Result.ok.injEq] at h2 h4
        have e0 := List.toArray_inj h2.1
        have e1 := List.toArray_inj h4.1
        subst e0; subst e1
        apply List.ext_getElem?
        intro i
        by_cases hi : i < l1.length
        · have a1 := hcell1 i l1[i] (List.getElem?_eq_getElem hi)
          have hi0 : i < l0.length := by omega
          have a0 := hcell i l0[i] (List.getElem?_eq_getElem hi0)
          rw [World.cell?_drew] at a1
          rw [List.getElem?_eq_getElem hi, List.getElem?_eq_getElem hi0]
          rw [← a1, ← a0]
        · rw [List.getElem?_eq_none (by omega), List.getElem?_eq_none (by omega)]
      · have : new.length = 0 := by rw [hlen]; have : n = 0 := by omega
                                    rw [this]; simp
        rw [List.eq_nil_of_length_eq_zero (by omega : l.length = 0), List.eq_nil_of_length_eq_zero (by omega : l'.length = 0)]
  rw [← key]; exact h4

theorem run_append_room' {t tx ty el : TypeId} {i : TypeInfo} (ht : P.underlying t = some (.slice el)) (hi : P.info? el = some i) {b off sLen sCap : Nat} {x : Value} {n : Nat} {news : List Value} {w' : World}
    (hs : Src P i.size tx x n news w) (hroom : sLen + n ≤ sCap) (hst : (storeCells ⟨b, off + sLen * i.size, none⟩ news).run P w = .ok () w') :
    (Builtin.append_ #[t, tx] ty #[.slice (some ⟨b, off, none⟩) sLen sCap, x]).run P w = .ok (.slice (some ⟨b, off, none⟩) (sLen + n) sCap) w' := by
  rcases hs.kind with ⟨e', hk⟩ | hk <;> simp [Builtin.append_, run_underlying ht, run_underlying hk, sizeOf, typeInfo, hi, hs.len, hroom, hs.cells, Addr.add_lit, hst]

/-- a new row -/
theorem append_grows (hw : WR j H w) {t u ty el : TypeId} {i : TypeInfo} {zv : Value} {y : Value} {ad : Option Addr} {ln cap' n : Nat} {old new : List AV} {lold lnew : List Value}
    (hel : P.underlying t = some (.slice el)) (hi : P.info? el = some i) (hz : i.zero = some zv) (hzs : zv.cells.size = i.size) (h0 : 0 < i.size) (h0z : 0 < i.bytes)
    (hs : Src P i.size u y n lnew w) (hnew : VRs j new lnew) (hgt : cap' < ln + n) (hlim : (ln + n) * i.bytes ≤ 140737488355328)
    (hold : VRs j old lold) (holdl : old.length = ln * i.size) (hlold : (Builtin.firstCells i.size ln (.slice ad ln cap')).run P w.drew = .ok lold.toArray w.drew) :
    ∃ j' w' c, Trans j H w j' (H.push (old ++ new)) w' ∧ VR j' (.sl H.next 0 (ln + n) none i.size) c ∧ (Builtin.append_ #[t, u] ty #[.slice ad ln cap', y]).run P w = .ok c w' := by
  have hnc := nextslicecap_le hgt
  have hbytes : (ln + n) ≤ (ln + n) * i.bytes := Nat.le_mul_of_pos_right _ h0z
  have hrun := run_append_grow_src (P := P) w t u ty el i zv hel hi hz ad ln cap' lold hlold y n lnew hs hgt (by omega) (by
    have := Nat.mul_le_mul_right i.bytes hnc
    rw [Nat.mul_assoc] at this
    omega)
  have hcap : ln + n ≤ grownCap w (ln + n) cap' el := by simp [grownCap, Question.cut]
  have hlo := VRs.length hold
  have hln := hs.newsLen
  let rest := (Builtin.zeroCells zv.cells (grownCap w (ln + n) cap' el - (ln + n))).toList
  have hrest : rest.length = (grownCap w (ln + n) cap' el - (ln + n)) * i.size := by rw [← hzs]; exact zeroCells_length ..
  have htot : ((lold ++ lnew) ++ rest).length = grownCap w (ln + n) cap' el * i.size := by
    simp only [List.length_append, hlo, hln, holdl, hrest]
    rw [← Nat.add_mul, ← Nat.add_mul]
    congr 1; omega
  have harr : (lold ++ lnew).toArray ++ Builtin.zeroCells zv.cells (grownCap w (ln + n) cap' el - (ln + n)) = ((lold ++ lnew) ++ rest).toArray := by
    apply Array.ext'
    simp [rest]
  rw [harr] at hrun
  have htr := Trans.push (w' := w.drew.alloc (.cells ((lold ++ lnew) ++ rest).toArray el)) hw (old ++ new) (lold ++ lnew) rest el (0, 0) (VRs.append hold hnew) rfl (.inl (Nat.le_refl _)) rfl rfl rfl
  exact ⟨_, _, _, htr, ⟨_, _, upd_same .., hcap, by simp only [htot]; omega, by simp, .inl rfl⟩, hrun⟩

theorem run_call_builtin {c : Call} {b : Builtin} (ho : o.op = .call c) (hb : c.callee = .builtin b) (w : World) :
    (execOp a.eval o).run P w = (builtin b c.argTypes o.type (c.args.map fun | .const _ => true | _ => false) (c.args.map a.eval)).run P w := by
  simp only [execOp, ho, resolve, hb, invoke, Sem.run_bind, Sem.run_pure, Result.andThen_ok]
  rfl

theorem does_append {c : Call} {x y : Operand} {t u : TypeId} {p : AOp} (ho : o.op = .call c) (hb : c.callee = .builtin .append) (hargs : c.args.toList = [x, y]) (hat : c.argTypes.toList = [t, u])
    {el : TypeId} {s z : Nat} {xa ya : Opd} (hel : elemOf? P t = some el) (hu : (∃ q, P.underlying u = some (.slice q)) ∨ P.underlying u = some .string)
    (hs : size? P el = some s) (hz : bytes? P el = some z) (h0 : 0 < s) (h0z : 0 < z) (hzv : (zeroV? P el).any (fun v => v.cells.size == s) = true)
    (hx : cOpd x = some xa) (hy : cOpd y = some ya) (hp : p = .append s z xa ya) (hw : WR j H w) (hE : ER j e a.tmps)
    (hr : p.run callF e H = some (v, H')) : Does P a o j H w v H' := by
  subst hp
  have ha : c.args = #[x, y] := by apply Array.ext'; simpa using hargs
  have ht : c.argTypes = #[t, u] := by apply Array.ext'; simpa using hat
  have hel' := elemOf_some hel
  have hinfo : ∃ i, P.info? el = some i ∧ i.size = s ∧ i.bytes = z := by
    simp only [size?, bytes?, Option.map_eq_some_iff] at hs hz
    obtain ⟨i, h1, h2⟩ := hs
    obtain ⟨i', h3, h4⟩ := hz
    rw [h1] at h3
    obtain rfl := Option.some.inj h3
    exact ⟨i, h1, h2, h4⟩
  obtain ⟨i, hi, rfl, rfl⟩ := hinfo
  have hzero : ∃ zv, i.zero = some zv ∧ zv.cells.size = i.size := by
    simp only [zeroV?, hi, Option.bind_some, Option.any_eq_true, beq_iff_eq] at hzv
    obtain ⟨zv, h1, h2⟩ := hzv
    exact ⟨zv, h1, h2⟩
  obtain ⟨zv, hzv1, hzv2⟩ := hzero
  obtain ⟨u1, u2, h1, h2, h3⟩ := opt2_some hr
  have e1 := opd_sound hE hx h1
  have e2 := opd_sound hE hy h2
  have fin : ∀ {j' c' w'}, Trans j H w j' H' w' → VR j' v c' → (Builtin.append_ #[t, u] o.type #[a.eval x, a.eval y]).run P w = .ok c' w' → Does P a o j H w v H' := by
    intro j' c' w' htr hvr hrun
    refine ⟨j', c', w', htr, hvr, .inl ?_⟩
    rw [run_call_builtin ho hb]
    simp [builtin, ha, ht, hrun]
  split at h3
  · rename_i new n hnew hn
    obtain ⟨hone, h4⟩ := bif_some h3
    clear h3
    obtain ⟨lnew, hl1, hsrc⟩ := src_sound (P := P) hw hnew hn hone e2 hu
    have hnlen := cellsOf_length hnew hn
    have hsh : u1 = .nilsl ∨ ∃ b off ln cap zz, u1 = .sl b off ln cap zz := by
      cases u1 <;> simp [appendTo] at h4 ⊢
    unfold appendTo at h4
    rcases hsh with rfl | ⟨b, off, ln, cap, zz, rfl⟩
    · -- nil
      simp only [VR] at e1
      simp only [cond_eq_ite, Nat.beq_eq] at h4
      split at h4
      · rename_i hn0
        subst hn0
        simp only [Option.some.injEq, Prod.mk.injEq] at h4
        obtain ⟨rfl, rfl⟩ := h4
        have : lnew = [] := List.eq_nil_of_length_eq_zero (by rw [hsrc.newsLen]; simp)
        subst this
        refine fin (Trans.refl hw) (c' := .slice none 0 0) rfl ?_
        rw [e1]
        exact run_append_nothing w t u o.type el i hel' hi none 0 0 (Nat.le_refl _) _ hsrc
      · rename_i hn0
        split at h4
        · rename_i hlim
          simp only [decide_eq_true_eq] at hlim
          simp only [Option.some.injEq, Prod.mk.injEq] at h4
          obtain ⟨rfl, rfl⟩ := h4
          obtain ⟨j', w', c', htr, hvr, hrun⟩ := append_grows (P := P) (ty := o.type) (ad := none) (ln := 0) (cap' := 0) (old := []) (lold := []) hw hel' hi hzv1 hzv2 h0 h0z hsrc hl1 (by omega) (by simpa using hlim) rfl (by simp)
            (by simp [Builtin.firstCells])
          simp only [List.nil_append, Nat.zero_add] at htr hvr
          exact fin htr hvr (by rw [e1]; exact hrun)
        · simp at h4
    · obtain ⟨loc, cap', hl, hle, hext, hex, he⟩ := e1
      simp only [cond_eq_ite, Nat.beq_eq] at h4
      split at h4
      · rename_i hn0
        subst hn0
        simp only [Option.some.injEq, Prod.mk.injEq] at h4
        obtain ⟨rfl, rfl⟩ := h4
        have : lnew = [] := List.eq_nil_of_length_eq_zero (by rw [hsrc.newsLen]; simp)
        subst this
        rcases he with he | ⟨h0c, ad, he⟩
        · refine fin (Trans.refl hw) (c' := .slice (some ⟨loc.blk, loc.off + off, none⟩) ln cap') ⟨loc, cap', hl, hle, hext, hex, .inl rfl⟩ ?_
          rw [he]
          exact run_append_nothing w t u o.type el i hel' hi _ _ _ hle _ hsrc
        · refine fin (Trans.refl hw) (c' := .slice (some ad) ln cap') ⟨loc, cap', hl, hle, hext, hex, .inr ⟨h0c, ad, rfl⟩⟩ ?_
          rw [he]
          exact run_append_nothing w t u o.type el i hel' hi _ _ _ hle _ hsrc
      · rename_i hn0
        split at h4
        · rename_i hlim
          simp only [Bool.and_eq_true, decide_eq_true_eq, Nat.beq_eq] at hlim
          obtain ⟨hlim, rfl⟩ := hlim
          have grow : ∀ {old : List AV} {m : Nat}, loadAt H b off (ln * i.size) = some old → cap' < ln + n → ∀ (Hk : Heap), Trans j H w j Hk w →
              ∃ j' w' c, Trans j H w j' (Hk.push (old ++ new)) w' ∧ VR j' (.sl Hk.next 0 (ln + n) none i.size) c ∧ (Builtin.append_ #[t, u] o.type #[a.eval x, a.eval y]).run P w = .ok c w' := by
            intro old m hold hgt Hk hk
            obtain ⟨lold, hvold, hrold, _⟩ := load_sound (P := P) (WR.drew hw) hold hl
            have hol := loadAt_length hold
            have key : ∃ ad, a.eval x = .slice (some ad) ln cap' ∧ (Builtin.firstCells i.size ln (.slice (some ad) ln cap')).run P w.drew = .ok lold.toArray w.drew := by
              rcases he with he | ⟨h0c, ad, he⟩
              · exact ⟨_, he, by simp [Builtin.firstCells, hrold]⟩
              · refine ⟨ad, he, ?_⟩
                have hz : ln = 0 := by omega
                subst hz
                have : lold = [] := List.eq_nil_of_length_eq_zero (by rw [VRs.length hvold, hol]; simp)
                subst this
                simp [Builtin.firstCells, loadCells, loadCellsFrom]
            obtain ⟨ad, hea, hfc⟩ := key
            obtain ⟨j', w', c', htr, hvr, hrun⟩ := append_grows (P := P) (ty := o.type) (ad := some ad) (ln := ln) (cap' := cap') hk.wr hel' hi hzv1 hzv2 h0 h0z hsrc hl1 hgt hlim hvold hol hfc
            exact ⟨j', w', c', hk.trans htr, hvr, by rw [hea]; exact hrun⟩
          split at h4
          · rename_i old m hold
            obtain ⟨hm, h4⟩ := if_some h4
            simp only [Bool.and_eq_true, decide_eq_true_eq] at hm
            simp only [Option.some.injEq, Prod.mk.injEq] at h4
            obtain ⟨rfl, rfl⟩ := h4
            have := hex m rfl
            obtain ⟨j', w', c', htr, hvr, hrun⟩ := grow (m := 0) hold (by omega) H (Trans.refl hw)
            exact fin htr hvr hrun
          · rename_i old hold
            obtain ⟨hro, h4⟩ := if_some h4
            simp only [decide_eq_true_eq] at hro
            simp only [Option.some.injEq, Prod.mk.injEq] at h4
            obtain ⟨rfl, rfl⟩ := h4
            by_cases hgt : cap' < ln + n
            · obtain ⟨j', w', c', htr, hvr, hrun⟩ := grow (m := 0) hold hgt (H.setTo b none) (Trans.kill hw b)
              exact fin htr hvr hrun
            · have hea : a.eval x = .slice (some ⟨loc.blk, loc.off + off, none⟩) ln cap' := by
                rcases he with he | ⟨h0c, _⟩
                · exact he
                · omega
              have hol := loadAt_length hold
              have hmul : ln * i.size + new.length ≤ cap' * i.size := by
                rw [hnlen, ← Nat.add_mul]
                exact Nat.mul_le_mul_right _ (by omega)
              obtain ⟨w', hst, htr⟩ := Trans.inplace (P := P) (e := cap' * i.size) hw hro hold hl hl1 hone hmul hext
              refine fin htr (c' := .slice (some ⟨loc.blk, loc.off + off, none⟩) (ln + n) cap') ⟨_, cap', upd_same .., by omega, by simp, by simp, .inl rfl⟩ ?_
              rw [hea]
              exact run_append_room' hel' hi hsrc (by omega) hst
          · simp at h4
        · simp at h4
  · simp at h3

theorem does_len {c : Call} {x : Operand} {t : TypeId} {p : AOp} (ho : o.op = .call c) (hb : c.callee = .builtin .len) (hargs : c.args.toList = [x]) (hat : c.argTypes.toList = [t])
    (hc : (match P.underlying t, cOpd x with
      | some .string, some a => some (AOp.len true a)
      | some (.slice _), some a => some (.len false a)
      | some (.array n _), _ => some (.lenC n)
      | _, _ => none) = some p) (hw : WR j H w) (hE : ER j e a.tmps)
    (hr : p.run callF e H = some (v, H')) : Does P a o j H w v H' := by
  have ha : c.args = #[x] := by apply Array.ext'; simpa using hargs
  have ht : c.argTypes = #[t] := by apply Array.ext'; simpa using hat
  have fin : ∀ {n : Nat}, v = .int .i64 n → H' = H → (Builtin.len_ #[t] o.type #[a.eval x]).run P w = .ok (.int .i64 n) w → Does P a o j H w v H' := by
    rintro n rfl rfl hrun
    refine Does.pure hw (c := .int .i64 n) rfl ?_
    rw [run_call_builtin ho hb]
    simp [builtin, ha, ht, hrun]
  split at hc
  · rename_i xa hu hx
    obtain rfl := Option.some.inj hc
    obtain ⟨u, hu1, h1⟩ := on1_some hr
    have e1 := opd_sound hE hx hu1
    cases u <;> simp at h1
    refine fin h1.1.symm h1.2.symm ?_
    rename_i st
    have hsz : (ByteArray.mk st.toArray).size = st.length := by simp [ByteArray.size]
    simp only [VR] at e1; rw [e1]; simp [Builtin.len_, run_underlying hu, hsz, goInt]
  · rename_i xa hu hx
    obtain rfl := Option.some.inj hc
    obtain ⟨u, hu1, h1⟩ := on1_some hr
    have e1 := opd_sound hE hx hu1
    cases u <;> simp at h1
    · refine fin (n := 0) h1.1.symm h1.2.symm ?_
      simp only [VR] at e1; rw [e1]; simp [Builtin.len_, run_underlying hu, goInt]
    · refine fin h1.1.symm h1.2.symm ?_
      obtain ⟨loc, cap', _, _, _, _, he | ⟨_, ad, he⟩⟩ := e1 <;> rw [he] <;> simp [Builtin.len_, run_underlying hu, goInt]
  · rename_i n el hu
    obtain rfl := Option.some.inj hc
    simp only [AOp.run, Option.some.injEq, Prod.mk.injEq] at hr
    refine fin hr.1.symm hr.2.symm ?_
    simp [Builtin.len_, run_underlying hu, goInt]
  · simp at hc

theorem does_copy {c : Call} {x y : Operand} {t u : TypeId} {p : AOp} (ho : o.op = .call c) (hb : c.callee = .builtin .copy) (hargs : c.args.toList = [x, y]) (hat : c.argTypes.toList = [t, u])
    {el : TypeId} {s : Nat} {xa ya : Opd} (hel : elemOf? P t = some el) (hs : size? P el = some s)
    (hx : cOpd x = some xa) (hy : cOpd y = some ya) (hp : p = .copy s xa ya) (hw : WR j H w) (hE : ER j e a.tmps)
    (hr : p.run callF e H = some (v, H')) : Does P a o j H w v H' := by
  subst hp
  have ha : c.args = #[x, y] := by apply Array.ext'; simpa using hargs
  have ht : c.argTypes = #[t, u] := by apply Array.ext'; simpa using hat
  have hel' := elemOf_some hel
  obtain ⟨u1, u2, h1, h2, h3⟩ := opt2_some hr
  have e1 := opd_sound hE hx h1
  have e2 := opd_sound hE hy h2
  have fin : ∀ {w' : World} {n : Nat}, Trans j H w j H' w' → v = .int .i64 n → (Builtin.copy_ #[t, u] o.type #[a.eval x, a.eval y]).run P w = .ok (.int .i64 n) w' → Does P a o j H w v H' := by
    rintro w' n htr rfl hrun
    refine ⟨j, .int .i64 n, w', htr, rfl, .inl ?_⟩
    rw [run_call_builtin ho hb]
    simp [builtin, ha, ht, hrun]
  split at h3
  · rename_i m n hm hn
    split at h3
    · rename_i new hnew
      obtain ⟨l, hl1, hl2⟩ := firstCells_sound (P := P) (k := min n m) hw hnew hn (Nat.min_le_left _ _) e2
      have hlen := lenOf_sound (P := P) (w := w) hn e2
      have hsh : u1 = .nilsl ∨ ∃ b off ln cap zz, u1 = .sl b off ln cap zz := by
        cases u1 <;> simp at h3 ⊢
      rcases hsh with rfl | ⟨b, off, ln, cap, zz, rfl⟩
      · simp only [Option.some.injEq, Prod.mk.injEq] at h3
        obtain ⟨rfl, rfl⟩ := h3
        simp only [lenOf, Option.some.injEq] at hm
        subst hm
        simp only [VR] at e1
        refine fin (n := 0) (Trans.refl hw) rfl ?_
        have hmin : n.min 0 = 0 := Nat.min_zero n
        have hl2' : (Builtin.firstCells s 0 (a.eval y)).run P w = .ok l.toArray w := by simpa using hl2
        simp [Builtin.copy_, run_underlying hel', e1, hlen, run_sizeOf hs, hmin, hl2', goInt]
      · simp only [lenOf, Option.some.injEq] at hm
        subst hm
        simp only at h3
        split at h3
        · rename_i H2 hst
          simp only [Option.some.injEq, Prod.mk.injEq] at h3
          obtain ⟨rfl, rfl⟩ := h3
          obtain ⟨loc, cap', hl, hle, hext, hex, he⟩ := e1
          obtain ⟨w', hrun, htr⟩ := store_sound (P := P) hw hst hl hl1
          have key : ∃ ad, a.eval x = .slice (some ad) ln cap' ∧ (storeCells ad l).run P w = .ok () w' := by
            rcases he with he | ⟨h0c, ad, he⟩
            · exact ⟨_, he, hrun⟩
            · refine ⟨ad, he, ?_⟩
              have hz : ln = 0 := by omega
              subst hz
              have hlz : l = [] := List.eq_nil_of_length_eq_zero (by rw [VRs.length hl1]; simp)
              subst hlz
              simp only [storeCells, Sem.run_pure] at hrun ⊢
              exact hrun
          obtain ⟨ad, hea, hst2⟩ := key
          refine fin htr rfl ?_
          have hl2' : (Builtin.firstCells s (n.min ln) (a.eval y)).run P w = .ok l.toArray w := hl2
          simp [Builtin.copy_, run_underlying hel', hea, hlen, run_sizeOf hs, hl2', hst2, goInt]
        · simp at h3
    · simp at h3
  · simp at h3

theorem minmax2_sound {mx : Bool} {x y r : AV} {c d : Value} (h : minmax2 mx x y = some r) (hx : VR j x c) (hy : VR j y d) :
    ∃ u, VR j r u ∧ ((if mx then Builtin.max2 else Builtin.min2) c d).run P w = .ok u w := by
  cases x <;> cases y <;> simp [minmax2] at h
  subst h
  simp only [VR] at hx hy
  subst hx; subst hy
  cases mx
  · exact ⟨_, rfl, by simp [Builtin.min2]⟩
  · exact ⟨_, rfl, by simp [Builtin.max2]⟩

theorem minmaxL_sound {mx : Bool} : ∀ {ys : List AV} {x r : AV} {c : Value} {ds : List Value}, minmaxL mx x ys = some r → VR j x c → VRs j ys ds →
    ∃ u, VR j r u ∧ (ds.foldlM (if mx then Builtin.max2 else Builtin.min2) c : Sem Value).run P w = .ok u w
  | [], x, r, c, ds, h, hx, hy => by
    simp only [minmaxL, Option.some.injEq] at h
    subst h
    simp only [VRs] at hy
    subst hy
    exact ⟨c, hx, by simp⟩
  | y :: ys, x, r, c, ds, h, hx, hy => by
    obtain ⟨d, ds', rfl, hd, hds⟩ := hy
    simp only [minmaxL] at h
    split at h
    · rename_i z hz
      obtain ⟨u, hu, hrun⟩ := minmax2_sound (P := P) (w := w) hz hx.plain hd.plain
      obtain ⟨u', hu', hrun'⟩ := minmaxL_sound h (hu.mark _) hds
      refine ⟨u', hu', ?_⟩
      rw [List.foldlM_cons, Sem.run_bind, hrun]
      exact hrun'
    · simp at h

theorem does_minmax {c : Call} {mx : Bool} {xs : List Opd} {p : AOp} (ho : o.op = .call c) (hb : c.callee = .builtin (if mx then .max else .min)) (hargs : cOpds c.args.toList = some xs)
    (hp : p = .minmax mx xs) (hw : WR j H w) (hE : ER j e a.tmps)
    (hr : p.run callF e H = some (v, H')) : Does P a o j H w v H' := by
  subst hp
  simp only [AOp.run] at hr
  split at hr
  · rename_i u us hu
    obtain ⟨h1, rfl⟩ := pureR_some hr
    have hall := opds_sound hE hargs hu
    obtain ⟨c0, cs, he, hc0, hcs⟩ := hall
    obtain ⟨r, hr1, hr2⟩ := minmaxL_sound (P := P) (w := w) h1 hc0 hcs
    refine Does.pure hw hr1 ?_
    rw [run_call_builtin ho hb]
    have hal : (c.args.map a.eval).toList = c0 :: cs := by simpa using he
    cases mx
    · simp only [builtin, Builtin.min_, hal, Bool.false_eq_true, if_false, Sem.run_bind]
      simp only [Bool.false_eq_true, if_false] at hr2
      rw [hr2]; rfl
    · simp only [builtin, Builtin.max_, hal, if_true, Sem.run_bind]
      simp only [if_true] at hr2
      rw [hr2]; rfl
  · simp at hr

end
end Go.Ev
