/- Each operation of the evaluator against the loaded one (three): what makes memory, slices. -/
import Derived.Test.YtkcfkegkhopakaaGreatDoorEvX1
import Derived.Laws.BytesString
import Derived.Deep.Upon
import Derived.LoopN
namespace Go.Ev
set_option linter.unusedSectionVars false
variable [Home]
set_option linter.unusedVariables false
set_option linter.unusedSimpArgs false
open Go

section
variable {P : Program} {a : Act} {o : Oper} {j : JM} {H H' : Heap} {w : World} {e : Env} {v : AV} {callF : CallF}

theorem push_sound (hw : WR j H w) {cs : List AV} {l : List Value} (hl : VRs j cs l) (elem : TypeId) :
    Trans j H w (upd j H.nb ⟨w.heap.size, 0, l.length⟩) (H.push cs) (w.alloc (.cells l.toArray elem)) := by
  have := Trans.push (w' := w.alloc (.cells l.toArray elem)) hw cs l [] elem (0, 0) hl (by rw [List.append_nil]; rfl) (.inl (Nat.le_refl _)) rfl rfl rfl
  simpa using this

theorem upd_same (j : JM) (b : Nat) (loc : Loc) : upd j b loc b = some loc := by simp [upd]

theorem does_alloc {t : TypeId} {p : AOp} (ho : o.op = .alloc t) (hc : cOp P (.alloc t) = some p) (hw : WR j H w)
    (hr : p.run callF e H = some (v, H')) : Does P a o j H w v H' := by
  simp only [cOp, Option.map_eq_some_iff] at hc
  obtain ⟨z, hz, rfl⟩ := hc
  simp only [AOp.run, Option.some.injEq, Prod.mk.injEq] at hr
  obtain ⟨rfl, rfl⟩ := hr
  obtain ⟨zv, h1, h2, _⟩ := zero_sound hz
  refine ⟨_, .pointer (some ⟨w.heap.size, 0, none⟩), _, push_sound hw (h2 j) t, ⟨_, upd_same .., rfl⟩, .inl ?_⟩
  simp [execOp, ho, Instr.alloc, run_zeroV h1, newVar, newRow]

theorem does_box {t : TypeId} {x : Operand} {p : AOp} (ho : o.op = .box t x) (hc : cOp P (.box t x) = some p) (hw : WR j H w) (hE : ER j e a.tmps)
    (hr : p.run callF e H = some (v, H')) : Does P a o j H w v H' := by
  simp only [cOp, Option.map_eq_some_iff] at hc
  obtain ⟨y, hy, rfl⟩ := hc
  obtain ⟨u, hu, h1⟩ := on1_some hr
  obtain ⟨_, h1⟩ := bif_some h1
  simp only [Option.some.injEq, Prod.mk.injEq] at h1
  obtain ⟨rfl, rfl⟩ := h1
  have hv := VR.cells (opd_sound hE hy hu)
  refine ⟨_, .pointer (some ⟨w.heap.size, 0, none⟩), _, push_sound hw hv t, ⟨_, upd_same .., rfl⟩, .inl ?_⟩
  simp [execOp, ho, Instr.box, newVar, newRow]

/-! ### parts -/
def PartsR (j : JM) (place : Nat → Option (Nat × Nat)) : List (Nat × Nat × AV) → List (Nat × Value) → Prop
  | [], l => l = []
  | (off, size, v) :: r, l => ∃ i c rest, l = (i, c) :: rest ∧ place i = some (off, size) ∧ VR j v c ∧ PartsR j place r rest

theorem parts_sound (hE : ER j e a.tmps) {place : Nat → Option (Nat × Nat)} : ∀ {xs : List (Nat × Operand)} {ys : List (Nat × Nat × Opd)} {vs : List (Nat × Nat × AV)},
    cParts place xs = some ys → getParts e ys = some vs → PartsR j place vs (xs.map fun (i, x) => (i, a.eval x))
  | [], ys, vs, h, hv => by
    simp only [cParts, Option.some.injEq] at h
    subst h
    simp only [getParts, Option.some.injEq] at hv
    subst hv
    rfl
  | (i, x) :: xs, ys, vs, h, hv => by
    simp only [cParts] at h
    split at h
    · rename_i off size hp
      split at h
      · rename_i y hy
        split at h
        · rename_i ys' hys
          obtain rfl := Option.some.inj h
          simp only [getParts] at hv
          split at hv
          · rename_i v hv1
            split at hv
            · rename_i vs' hvs
              obtain rfl := Option.some.inj hv
              exact ⟨i, _, _, rfl, hp, opd_sound hE hy hv1, parts_sound hE hys hvs⟩
            · simp at hv
          · simp at hv
        · simp at h
      · simp at h
    · simp at h

theorem fill_foldl : ∀ (cs : List Value) (off k : Nat) (l : List Value), off + k + cs.length ≤ l.length →
    ((cs.zipIdx k).foldl (fun (acc : Array Value) (x : Value × Nat) => acc.setIfInBounds (off + x.2) x.1) l.toArray).toList = l.take (off + k) ++ (cs ++ l.drop (off + k + cs.length))
  | [], off, k, l, h => by simp
  | c :: cs, off, k, l, h => by
    simp only [List.length_cons] at h
    simp only [List.zipIdx_cons, List.foldl_cons, List.setIfInBounds_toArray]
    rw [fill_foldl cs off (k + 1) (l.set (off + k) c) (by simp; omega)]
    apply List.ext_getElem?
    intro i
    simp only [List.getElem?_append, List.getElem?_take, List.getElem?_drop, List.length_take, List.length_set, List.getElem?_set, List.length_cons]
    by_cases h1 : i < off + k
    · have : i < off + (k + 1) := by omega
      have h2 : ¬ (off + k = i) := by omega
      have h3 : i < min (off + (k + 1)) l.length := by omega
      have h4 : i < min (off + k) l.length := by omega
      simp [h1, this, h2, h3, h4]
    · by_cases h2 : i = off + k
      · subst h2
        have h3 : off + k < min (off + (k + 1)) l.length := by omega
        have h4 : ¬ off + k < min (off + k) l.length := by omega
        have h5 : off + k < l.length := by omega
        have h6 : off + k - min (off + k) l.length = 0 := by omega
        simp only [h3, h4, if_true, if_false, h6]
        simp; omega
      · have h3 : ¬ i < min (off + (k + 1)) l.length := by omega
        have h4 : ¬ i < min (off + k) l.length := by omega
        simp only [h3, h4, if_false]
        have e1 : i - min (off + k) l.length = (i - min (off + (k + 1)) l.length) + 1 := by omega
        rw [e1]
        simp only [List.getElem?_cons_succ, Nat.add_lt_add_iff_right]
        by_cases h5 : i - min (off + (k + 1)) l.length < cs.length
        · simp [h5]
        · simp only [h5, if_false]
          have e2 : ¬ (off + k = off + (k + 1) + cs.length + (i - min (off + (k + 1)) l.length - cs.length)) := by omega
          simp only [e2, if_false]
          congr 1; omega

theorem fillIn_ones : ∀ {ps : List (Nat × Nat × AV)} {zs cs : List AV}, fillIn zs ps = some cs → cs.length = zs.length
  | [], zs, cs, h => by simp only [fillIn, Option.some.injEq] at h; subst h; rfl
  | (off, size, v) :: ps, zs, cs, h => by
    simp only [fillIn] at h
    obtain ⟨hb, h⟩ := bif_some h
    simp only [Bool.and_eq_true, decide_eq_true_eq] at hb
    rw [fillIn_ones h]
    simp; omega

theorem fill_sound {place : Nat → Option (Nat × Nat)} : ∀ {ps : List (Nat × Nat × AV)} {qs : List (Nat × Value)} {zs cs : List AV} {l : List Value}, PartsR j place ps qs → VRs j zs l → fillIn zs ps = some cs →
    ∃ m, Instr.fill place l.toArray qs = some m.toArray ∧ VRs j cs m
  | [], qs, zs, cs, l, hp, hl, h => by
    simp only [PartsR] at hp
    subst hp
    simp only [fillIn, Option.some.injEq] at h
    subst h
    exact ⟨l, rfl, hl⟩
  | (off, size, v) :: ps, qs, zs, cs, l, hp, hl, h => by
    obtain ⟨i, c, rest, rfl, hpl, hv, hrest⟩ := hp
    simp only [fillIn] at h
    obtain ⟨hb, h⟩ := bif_some h
    simp only [Bool.and_eq_true, decide_eq_true_eq] at hb
    have hc := VR.cells hv
    have hcl := VRs.length hc
    have hll := VRs.length hl
    have hsz : c.cells.size = size := by rw [← Array.length_toList]; omega
    have hnew := fill_foldl c.cells.toList off 0 l (by simp; omega)
    simp only [Nat.add_zero, Array.length_toList, hsz] at hnew
    have hrel : VRs j (zs.take off ++ (v.cells ++ zs.drop (off + size))) (l.take off ++ (c.cells.toList ++ l.drop (off + size))) :=
      VRs.append (VRs.take _ hl) (VRs.append hc (VRs.drop _ hl))
    obtain ⟨m, hm1, hm2⟩ := fill_sound hrest hrel h
    refine ⟨m, ?_, hm2⟩
    simp only [Instr.fill, hpl]
    have hcond : (c.cells.size ≠ size || decide (off + c.cells.size > l.toArray.size)) = false := by simp; omega
    rw [if_neg (by simpa using hcond)]
    rw [← hm1]
    congr 1
    apply Array.ext'
    rw [← hnew]
    simp [Array.foldl_toList, ← Array.toList_zipIdx]

theorem does_build {t : TypeId} {parts : Array (Nat × Operand)} {p : AOp} (ho : o.op = .build t parts) (hc : cOp P (.build t parts) = some p) (hw : WR j H w) (hE : ER j e a.tmps)
    (hr : p.run callF e H = some (v, H')) : Does P a o j H w v H' := by
  simp only [cOp] at hc
  have fin : ∀ (place : Nat → Option (Nat × Nat)) (z : List AV) (ps : List (Nat × Nat × Opd)), zero? P t = some z → cParts place parts.toList = some ps → p = .build z ps →
      (∀ zv cells qs, zeroV? P t = some zv → Instr.fill place zv.cells qs = some cells → P.built t qs = some cells) → Does P a o j H w v H' := by
    rintro place z ps hz hps rfl hb
    simp only [AOp.run] at hr
    split at hr
    · rename_i vs hvs
      split at hr
      · rename_i cs hcs
        simp only [Option.some.injEq, Prod.mk.injEq] at hr
        obtain ⟨rfl, rfl⟩ := hr
        obtain ⟨zv, h1, h2, _⟩ := zero_sound hz
        obtain ⟨m, hm1, hm2⟩ := fill_sound (parts_sound hE hps hvs) (h2 j) hcs
        refine Does.pure hw ⟨m, rfl, hm2⟩ ?_
        have := hb zv m.toArray _ h1 (by simpa using hm1)
        simp only [execOp, ho, Sem.run_bind]
        rw [run_build w t _ m.toArray (by simpa using this)]
        rfl
      · simp at hr
    · simp at hr
  unfold cBuild at hc
  split at hc
  · rename_i fs hu
    split at hc
    · rename_i places hpl
      simp only [Option.bind_eq_some_iff, Option.map_eq_some_iff] at hc
      obtain ⟨z, hz, ps, hps, rfl⟩ := hc
      refine fin _ z ps hz hps rfl (fun zv cells qs h1 h2 => ?_)
      unfold Program.built
      simp only [zeroV?, Option.bind_eq_some_iff] at h1
      obtain ⟨i, hi, hzv⟩ := h1
      simp [hi, hu, hzv, hpl]
      simpa using h2
    · simp at hc
  · rename_i n el hu
    split at hc
    · rename_i s hs
      simp only [Option.bind_eq_some_iff, Option.map_eq_some_iff] at hc
      obtain ⟨z, hz, ps, hps, rfl⟩ := hc
      refine fin _ z ps hz hps rfl (fun zv cells qs h1 h2 => ?_)
      unfold Program.built
      simp only [zeroV?, Option.bind_eq_some_iff] at h1
      obtain ⟨i, hi, hzv⟩ := h1
      simp only [size?, Option.map_eq_some_iff] at hs
      obtain ⟨ie, hie, rfl⟩ := hs
      simp only [hi, hu, hzv, hie]
      exact h2
    · simp at hc
  · simp at hc

theorem rep_sound {zs : List AV} {l : List Value} (h : VRs j zs l) : ∀ n, VRs j (rep n zs) ((List.replicate n l).flatten)
  | 0 => by simp [rep, VRs]
  | n + 1 => by simp only [rep, List.replicate_succ, List.flatten_cons]; exact VRs.append h (rep_sound h n)

theorem rep_length (n : Nat) (l : List AV) : (rep n l).length = n * l.length := by
  induction n with
  | zero => simp [rep]
  | succ n ih => simp [rep, ih, Nat.add_mul]; omega

theorem range_map_rep (l : List Value) (n s : Nat) (hs : l.length = s) (h0 : 0 < s) :
    ((Array.range (n * s)).map fun x => l.toArray[x % l.toArray.size]!) = ((List.replicate n l).flatten).toArray := by
  apply Array.ext'
  simp only [Array.toList_map, Array.toList_range, List.size_toArray, hs]
  apply List.ext_getElem?
  intro i
  by_cases hi : i < n * s
  · have hlt : i % s < l.length := by rw [hs]; exact Nat.mod_lt _ h0
    rw [List.getElem?_map, List.getElem?_range hi, Option.map_some]
    have hfl : ((List.replicate n l).flatten)[i]? = l[i % s]? := by
      clear hlt
      induction n generalizing i with
      | zero => simp at hi
      | succ n ih =>
        rw [List.replicate_succ, List.flatten_cons]
        by_cases hlt : i < s
        · rw [List.getElem?_append_left (by omega), Nat.mod_eq_of_lt hlt]
        · rw [List.getElem?_append_right (by omega), hs, ih (i - s) (by have := Nat.add_mul n 1 s; omega)]
          congr 1
          exact (Nat.mod_eq_sub_mod (by omega)).symm
    rw [hfl, List.getElem?_eq_getElem hlt]
    simp [hlt]
  · rw [List.getElem?_eq_none (by simp; omega), List.getElem?_eq_none (by simp [hs]; omega)]

theorem does_buildSl {t : TypeId} {n : Nat} {parts : Array (Nat × Operand)} {p : AOp} (ho : o.op = .buildSlice t n parts) (hc : cOp P (.buildSlice t n parts) = some p) (hw : WR j H w) (hE : ER j e a.tmps)
    (hr : p.run callF e H = some (v, H')) : Does P a o j H w v H' := by
  simp only [cOp, Option.bind_eq_some_iff] at hc
  obtain ⟨el, hel, s, hs, z, hz, hc⟩ := hc
  obtain ⟨⟨h0, hzl, hlim⟩, hc⟩ := if_some hc
  simp only [Option.map_eq_some_iff] at hc
  obtain ⟨ps, hps, rfl⟩ := hc
  simp only [AOp.run] at hr
  split at hr
  · rename_i vs hvs
    split at hr
    · rename_i cs hcs
      obtain ⟨hone, hr⟩ := bif_some hr
      simp only [Option.some.injEq, Prod.mk.injEq] at hr
      obtain ⟨rfl, rfl⟩ := hr
      obtain ⟨zv, h1, h2, _⟩ := zero_sound hz
      have hzlen := VRs.length (h2 j)
      obtain ⟨m, hm1, hm2⟩ := fill_sound (parts_sound hE hps hvs) (rep_sound (h2 j) n) hcs
      have hmlen := VRs.length hm2
      have hcl := fillIn_ones hcs
      rw [rep_length, hzl] at hcl
      refine ⟨_, .slice (some ⟨w.heap.size, 0, none⟩) n n, _, push_sound hw hm2 el, ?_, .inl ?_⟩
      · refine ⟨_, n, upd_same .., Nat.le_refl _, by simp; omega, by simp, .inl rfl⟩
      · have hel' : P.underlying t = some (.slice el) := by
          unfold elemOf? at hel
          split at hel
          · rename_i e' hu; rw [hu]; simpa using hel
          · simp at hel
        have hbig : ¬ (16777216 < n * s) := by omega
        have hzs : zv.cells.toList.length = s := by omega
        have hrm := range_map_rep zv.cells.toList n s hzs h0
        simp only [Array.toArray_toList] at hrm
        simp only [execOp, ho, Sem.run_bind, Instr.buildSlice, run_underlying hel', Result.andThen_ok, run_sizeOf hs, Nat.reducePow, gt_iff_lt, hbig, if_false]
        by_cases hn0 : n * s = 0
        · have : n = 0 := by
            rcases Nat.mul_eq_zero.1 hn0 with h | h
            · exact h
            · omega
          subst this
          simp only [Nat.zero_mul, if_true, Sem.run_pure, Sem.run_bind, Result.andThen_ok, Array.range_zero', Array.map_empty]
          have hm1' : Instr.fill (fun i => some (i * s, s)) #[] (parts.map fun x => (x.1, a.eval x.2)).toList = some m.toArray := by simpa using hm1
          rw [hm1']
          simp [newRow]
        · simp only [hn0, if_false, Sem.run_bind, Sem.run_pure, run_zeroV h1, Result.andThen_ok]
          rw [hrm]
          have hm1' : Instr.fill (fun i => some (i * s, s)) ((List.replicate n zv.cells.toList).flatten).toArray (parts.map fun x => (x.1, a.eval x.2)).toList = some m.toArray := by simpa using hm1
          rw [hm1']
          simp [newRow]
    · simp at hr
  · simp at hr

end
end Go.Ev

/- Each operation of the evaluator against the loaded one (four). -/

namespace Go.Ev
set_option linter.unusedSectionVars false
variable [Home]
set_option linter.unusedVariables false
set_option linter.unusedSimpArgs false
open Go

section
variable {P : Program} {a : Act} {o : Oper} {j : JM} {H H' : Heap} {w : World} {e : Env} {v : AV} {callF : CallF}

theorem elemOf_some {t el : TypeId} (h : elemOf? P t = some el) : P.underlying t = some (.slice el) := by
  unfold elemOf? at h
  split at h
  · rename_i e' hu; rw [hu]; simpa using h
  · simp at h

theorem strBytes_list : ∀ (cs : List AV) (l : List Value) (st : List UInt8), VRs j cs l → strOfBytes cs = some st →
    ∃ ns : List Int, l = ns.map (Value.int .u8) ∧ st = ns.map fun n => UInt8.ofNat n.toNat
  | [], l, st, hl, hst => by
    simp only [VRs] at hl
    subst hl
    simp only [strOfBytes, Option.some.injEq] at hst
    subst hst
    exact ⟨[], rfl, rfl⟩
  | x :: cs, l, st, hl, hst => by
    obtain ⟨c, l', rfl, hc1, hl'⟩ := hl
    cases x with
    | int k n =>
      cases k <;> simp only [strOfBytes] at hst <;> (try simp at hst; done)
      split at hst
      · rename_i s' hs'
        obtain rfl := Option.some.inj hst
        simp only [VR] at hc1
        subst hc1
        obtain ⟨ns, rfl, rfl⟩ := strBytes_list cs l' s' hl' hs'
        exact ⟨n :: ns, rfl, rfl⟩
      · simp at hst
    | _ => simp [strOfBytes] at hst

theorem foldl_push : ∀ (ns : List Int) (acc : List UInt8), ns.foldl (fun (r : ByteArray) n => r.push (UInt8.ofNat n.toNat)) ⟨acc.toArray⟩ = ⟨(acc ++ ns.map fun n => UInt8.ofNat n.toNat).toArray⟩
  | [], acc => by simp
  | n :: ns, acc => by
    simp only [List.foldl_cons, List.map_cons]
    rw [show (ByteArray.mk acc.toArray).push (UInt8.ofNat n.toNat) = ByteArray.mk (acc ++ [UInt8.ofNat n.toNat]).toArray by simp [ByteArray.push], foldl_push ns]
    simp

theorem run_stringToBytes (st : List UInt8) (el : TypeId) (w : World) : ∃ cap w', st.length ≤ cap ∧
    w'.heap = w.heap.push (.cells ((st.map fun (b : UInt8) => (Value.int .u8 b.toNat : Value)) ++ List.replicate (cap - st.length) (Value.int .u8 0)).toArray el (cap, cap + 1)) ∧
    w'.os = w.os ∧ w'.tape = w.tape ∧ w'.output = w.output ∧
    (Conv.stringToBytes el ⟨st.toArray⟩).run P w = .ok (.slice (some ⟨w.heap.size, 0, none⟩) st.length cap) w' := by
  let cap := (Question.appendCap st.length 0 el).cut (w.tape w.drawn (Question.appendCap st.length 0 el))
  have hcap : st.length ≤ cap := by simp [cap, Question.cut]
  let arr : Array Value := ((st.map fun (b : UInt8) => (Value.int .u8 b.toNat : Value)) ++ List.replicate (cap - st.length) (Value.int .u8 0)).toArray
  have harr : arr.size = cap := by simp [arr]; omega
  let w1 : World := { w with drawn := w.drawn + 1, heap := w.heap.push (.cells arr el) }
  have hsh : w1.shape? w.heap.size = some (el, cap) := by
    simp only [World.shape?, w1, Array.getElem?_push_size, harr]
  have hfr : (w1.freeze ⟨w.heap.size, cap, none⟩ 1).heap = w.heap.push (.cells arr el (cap, cap + 1)) := by
    simp only [World.freeze, Nat.one_ne_zero, if_false]
    apply Array.ext_getElem?
    intro i
    rw [Array.getElem?_modify]
    by_cases hi : w.heap.size = i
    · subst hi
      simp [w1]
    · simp only [hi, if_false, w1]
      rw [Array.getElem?_push, Array.getElem?_push]
      simp [Ne.symm hi]
  refine ⟨cap, w1.freeze ⟨w.heap.size, cap, none⟩ 1, hcap, hfr, rfl, rfl, rfl, ?_⟩
  have e1 : (choose (Question.appendCap (ByteArray.mk st.toArray).size 0 el)).run P w = .ok cap { w with drawn := w.drawn + 1 } := by
    rw [run_choose]; rfl
  have e2 : (Array.map (fun b => Value.int IntKind.u8 ↑b.toNat) (ByteArray.mk st.toArray).data ++ Array.replicate (cap - (ByteArray.mk st.toArray).size) (Value.int IntKind.u8 0)) = arr := by
    simp [arr, ByteArray.size]
  unfold Conv.stringToBytes
  rw [Sem.run_bind, e1, Result.andThen_ok]
  simp only [Sem.run_bind, e2, newRow, run_newObj, Result.andThen_ok, Sem.run_pure, markStringish, run_shape]
  change Result.andThen (Sem.run P (match w1.shape? w.heap.size with
    | some (_, n) => freeze { block := w.heap.size, off := n } 1
    | _ => pure ()) w1) _ = _
  rw [hsh]
  rfl

theorem does_conv {s d : TypeId} {x : Operand} {p : AOp} (ho : o.op = .convert s d x) (hc : cOp P (.convert s d x) = some p) (hw : WR j H w) (hE : ER j e a.tmps)
    (hr : p.run callF e H = some (v, H')) : Does P a o j H w v H' := by
  simp only [cOp, Option.bind_eq_some_iff] at hc
  obtain ⟨xa, hxa, hc⟩ := hc
  unfold cConv at hc
  split at hc
  · rename_i ds k hs hd
    obtain rfl := Option.some.inj hc
    obtain ⟨u, hu, h1⟩ := on1_some hr
    have hv := (opd_sound hE hxa hu).plain
    obtain ⟨h2, rfl⟩ := pureR_some h1
    unfold convM at h2
    split at h2 <;> (try simp at h2; done)
    rename_i k1 n1 hu1
    rw [hu1] at hv
    obtain rfl := Option.some.inj h2
    have hR := (opd_sound hE hxa hu).inR hu1
    simp only [VR] at hv
    have hres : VR j (bif u.marked then .sym k (k.wrap n1) (convRng k u.rng).1 (convRng k u.rng).2 else .int k (k.wrap n1)) (.int k (k.wrap n1)) := by
      cases u.marked with
      | false => rfl
      | true =>
        refine ⟨rfl, ?_⟩
        unfold convRng
        split
        · rename_i a b he
          rw [he] at hR
          exact fitRng_sound (hR.1 a rfl) (hR.2 b rfl)
        · exact InR.none _
    refine Does.pure hw hres ?_
    simp [execOp, ho, hv, convert, run_underlying hs, run_underlying hd, Conv.intToInt]
  · rename_i hs hd
    obtain rfl := Option.some.inj hc
    obtain ⟨u, hu, h1⟩ := on1_some hr
    have hv := opd_sound hE hxa hu
    cases u <;> (try simp at h1; done)
    simp only [Option.some.injEq, Prod.mk.injEq] at h1
    obtain ⟨rfl, rfl⟩ := h1
    simp only [VR] at hv
    refine Does.pure hw rfl ?_
    simp [execOp, ho, hv, convert, run_underlying hs, run_underlying hd]
  · rename_i el hs hd
    obtain ⟨hu8, hc⟩ := if_some hc
    obtain rfl := Option.some.inj hc
    obtain ⟨u, hu, h1⟩ := on1_some hr
    have hv := opd_sound hE hxa hu
    have hue : P.underlying el = some (.int .u8) := by
      unfold isU8 at hu8
      split at hu8
      · assumption
      · simp at hu8
    have h1 : (match cellsOf H 1 u with
      | some cs => (match strOfBytes cs with
        | some s => some (AV.str s, H)
        | none => none)
      | none => none) = some (v, H') := by
      cases u <;> first | exact h1 | simp at h1
    have hnstr : ∀ st', u ≠ .str st' := by
      rintro st' rfl
      simp [AOp.run, on1, hu] at hr
    split at h1
    · rename_i cs hcs
      split at h1
      · rename_i st hst
        simp only [Option.some.injEq, Prod.mk.injEq] at h1
        obtain ⟨rfl, rfl⟩ := h1
        cases u with
        | nilsl =>
          simp only [cellsOf, Option.some.injEq] at hcs
          subst hcs
          simp only [strOfBytes, Option.some.injEq] at hst
          subst hst
          simp only [VR] at hv
          refine Does.pure (c := .string .empty) hw (by simp [VR]; rfl) ?_
          simp [execOp, ho, hv, convert, run_underlying hs, run_underlying hd, run_underlying hue, Conv.bytesToString]
        | sl b off ln cap size =>
          simp only [cellsOf, Nat.mul_one] at hcs
          obtain ⟨loc, cap', hl, hle, hext, _, he⟩ := hv
          obtain ⟨l, hvl, hrun, _⟩ := load_sound (P := P) hw hcs hl
          have hlen := loadAt_length hcs
          have hlen2 := VRs.length hvl
          have key : ∃ ad, a.eval x = .slice (some ad) ln cap' ∧ (loadCells ad ln).run P w = .ok l.toArray w := by
            rcases he with he | ⟨h0, ad, he⟩
            · exact ⟨_, he, hrun⟩
            · refine ⟨ad, he, ?_⟩
              have hz : ln = 0 := by omega
              subst hz
              have : l = [] := List.eq_nil_of_length_eq_zero (by omega)
              subst this
              rfl
          obtain ⟨ad, he, hrun⟩ := key
          obtain ⟨ns, rfl, rfl⟩ := strBytes_list cs l st hvl hst
          refine Does.pure (c := .string ⟨(ns.map fun (n : Int) => UInt8.ofNat n.toNat).toArray⟩) hw (by simp only [VR]) ?_
          simp only [execOp, ho, he, Sem.run_bind, run_convert_bytes_string w s d el _ _ _ hs hue hd, run_bytesToString w ad ln cap' ns hrun, Result.andThen_ok, Sem.run_pure]
          have := foldl_push ns []
          simp only [List.nil_append] at this
          rw [← this]
          rfl
        | str st' => exact absurd rfl (hnstr st')
        | _ => simp [cellsOf] at hcs
      · simp at h1
    · simp at h1
  · rename_i el hs hd
    obtain ⟨hu8, hc⟩ := if_some hc
    obtain rfl := Option.some.inj hc
    simp only [Bool.and_eq_true, beq_iff_eq] at hu8
    obtain ⟨u, hu, h1⟩ := on1_some hr
    have hv := opd_sound hE hxa hu
    have hue : P.underlying el = some (.int .u8) := by
      have := hu8.1
      unfold isU8 at this
      split at this
      · assumption
      · simp at this
    cases u <;> (try simp at h1; done)
    rename_i st
    obtain ⟨hlim, h1⟩ := bif_some h1
    simp only [Option.some.injEq, Prod.mk.injEq] at h1
    obtain ⟨rfl, rfl⟩ := h1
    simp only [VR] at hv
    simp only [decide_eq_true_eq] at hlim
    obtain ⟨cap, w', hcap, hheap, ho1, ho2, ho3, hrun⟩ := run_stringToBytes (P := P) st el w
    have hrel : VRs j (bytesOfStr st) (st.map fun (b : UInt8) => (Value.int .u8 b.toNat : Value)) := VRs.mk (by simp [bytesOfStr]) (fun i v hi => by
      simp only [bytesOfStr, List.getElem?_map, Option.map_eq_some_iff] at hi
      obtain ⟨b, hb, rfl⟩ := hi
      exact ⟨.int .u8 b.toNat, by simp [hb], rfl⟩)
    have hlext : ((st.map fun (b : UInt8) => (Value.int .u8 b.toNat : Value)) ++ List.replicate (cap - st.length) (Value.int .u8 0)).length = cap := by simp; omega
    have htr := Trans.push (w' := w') hw (bytesOfStr st) _ _ el (cap, cap + 1) hrel hheap (.inr (by simp only [hlext]; exact Nat.le_refl _)) ho1 ho2 ho3
    refine ⟨_, .slice (some ⟨w.heap.size, 0, none⟩) st.length cap, w', htr, ⟨_, cap, upd_same .., hcap, by simp only [hlext]; omega, by simp, .inl rfl⟩, .inl ?_⟩
    simp only [execOp, ho, hv, convert, Sem.run_bind, run_underlying hs, run_underlying hd, run_underlying hue, Result.andThen_ok, hrun, Sem.run_pure]
  · simp at hc

theorem does_extract {x : Operand} {k : Nat} {p : AOp} (ho : o.op = .extract x k) (hc : cOp P (.extract x k) = some p) (hw : WR j H w) (hE : ER j e a.tmps)
    (hr : p.run callF e H = some (v, H')) : Does P a o j H w v H' := by
  simp only [cOp, Option.map_eq_some_iff] at hc
  obtain ⟨xa, hxa, rfl⟩ := hc
  obtain ⟨u, hu, h1⟩ := on1_some hr
  have hv := opd_sound hE hxa hu
  cases u <;> (try simp at h1; done)
  obtain ⟨h2, rfl⟩ := pureR_some h1
  obtain ⟨l, he, hl⟩ := hv
  obtain ⟨c, hc1, hc2⟩ := VRs.get hl k v h2
  refine Does.pure hw hc2 ?_
  simp [execOp, ho, he, Instr.extract, hc1]

theorem does_mkfn {f : FuncId} {first captured : Array Operand} {p : AOp} (ho : o.op = .makeFunc (.func f) first captured) (hc : cOp P (.makeFunc (.func f) first captured) = some p) (hw : WR j H w) (hE : ER j e a.tmps)
    (hr : p.run callF e H = some (v, H')) : Does P a o j H w v H' := by
  simp only [cOp, Option.bind_eq_some_iff, Option.map_eq_some_iff] at hc
  obtain ⟨xa, hxa, ya, hya, rfl⟩ := hc
  simp only [AOp.run] at hr
  split at hr
  · rename_i vs us h1 h2
    simp only [Option.some.injEq, Prod.mk.injEq] at hr
    obtain ⟨rfl, rfl⟩ := hr
    refine Does.pure hw ⟨_, _, rfl, opds_sound hE hxa h1, opds_sound hE hya h2⟩ ?_
    simp [execOp, ho, Instr.makeFunc, ← Array.toList_map]
  · simp at hr

theorem does_mkSl {t : TypeId} {l c : Operand} {p : AOp} (ho : o.op = .makeSlice t l c) (hc : cOp P (.makeSlice t l c) = some p) (hw : WR j H w) (hE : ER j e a.tmps)
    (hr : p.run callF e H = some (v, H')) : Does P a o j H w v H' := by
  simp only [cOp, Option.bind_eq_some_iff] at hc
  obtain ⟨el, hel, s, hs, by_, hby, z, hz, hc⟩ := hc
  obtain ⟨⟨h0, hzl⟩, hc⟩ := if_some hc
  simp only [Option.bind_eq_some_iff, Option.map_eq_some_iff] at hc
  obtain ⟨la, hla, ca, hca, rfl⟩ := hc
  obtain ⟨u1, u2, h1, h2, h3⟩ := opt2_some hr
  have e1 := opd_sound hE hla h1
  have e2 := opd_sound hE hca h2
  split at h3
  · rename_i n m hn hm
    obtain ⟨hb, h3⟩ := bif_some h3
    simp only [Bool.and_eq_true, decide_eq_true_eq, Nat.beq_eq] at hb
    obtain ⟨⟨⟨hb1, hb2⟩, hb3⟩, hb4⟩ := hb
    simp only [Option.some.injEq, Prod.mk.injEq] at h3
    obtain ⟨rfl, rfl⟩ := h3
    subst hb4
    have nat : ∀ (u : AV) (n : Nat) (c : Value), natOf u = some n → VR j u c → ∃ k, c = .int k (n : Int) := by
      intro u n c hu hv
      cases u <;> simp only [natOf] at hu <;> (try simp at hu; done)
      obtain ⟨hp, hu⟩ := bif_some hu
      simp only [decide_eq_true_eq] at hp
      obtain rfl := Option.some.inj hu
      simp only [VR] at hv
      exact ⟨_, by rw [hv]; congr 1; omega⟩
    obtain ⟨k1, e1⟩ := nat _ _ _ hn e1
    obtain ⟨k2, e2⟩ := nat _ _ _ hm e2
    obtain ⟨zv, hz1, hz2, _⟩ := zero_sound hz
    have hzlen := VRs.length (hz2 j)
    have hel' := elemOf_some hel
    obtain ⟨i, hi, rfl⟩ := run_bytes hby w
    have hrep := rep_sound (hz2 j) n
    have hreplen : ((List.replicate n zv.cells.toList).flatten).length = n * s := by simp; rw [show zv.cells.size = s by rw [← Array.length_toList]; omega]
    refine ⟨_, .slice (some ⟨w.heap.size, 0, none⟩) n n, _, push_sound hw hrep el, ?_, .inl ?_⟩
    · exact ⟨_, n, upd_same .., Nat.le_refl _, by simp only [hreplen]; omega, by simp, .inl rfl⟩
    · have hzs : zv.cells.toList.length = s := by omega
      have hrm := range_map_rep zv.cells.toList n s hzs h0
      simp only [Array.toArray_toList] at hrm
      have w1 : IntKind.i64.wrap (n : Int) = n := by
        simp only [IntKind.wrap, IntKind.signed, IntKind.bits, Bool.true_and]
        have : (n : Int) % 2 ^ 64 = n := Int.emod_eq_of_lt (by omega) (by omega)
        simp only [this]
        rw [if_neg (by simp; omega)]
      have hb2' : ¬ ((2 : Int) ^ 48 < (i.bytes : Int) * (n : Int)) := by
        have : ((i.bytes * n : Nat) : Int) ≤ 140737488355328 := by omega
        rw [Int.natCast_mul] at this
        omega
      simp only [execOp, ho, e1, e2, Sem.run_bind, Instr.makeSlice, run_underlying hel', Result.andThen_ok, asInt, asIntOf, Sem.run_pure, hi, w1]
      have hlt : ¬ ((n : Int) < 0) := by omega
      simp only [hlt, gt_iff_lt, hb2', decide_false, Bool.or_self, Int.lt_irrefl, Bool.false_eq_true, if_false, Sem.run_ite, Sem.run_bind, run_askRoom, Result.andThen_ok, run_sizeOf hs, Int.toNat_natCast]
      by_cases hn0 : n * s = 0
      · have : n = 0 := by
          rcases Nat.mul_eq_zero.1 hn0 with h | h
          · exact h
          · omega
        subst this
        simp [newRow, Array.range_zero']
      · simp only [hn0, if_false, Sem.run_bind, Sem.run_pure, run_zeroV hz1, Result.andThen_ok]
        rw [hrm]
        simp [newRow]
  · simp at h3

end
end Go.Ev

/- Each operation of the evaluator against the loaded one (five): slices, append, copy, calls. -/

namespace Go.Ev
set_option linter.unusedSectionVars false
variable [Home]
set_option linter.unusedVariables false
set_option linter.unusedSimpArgs false
open Go

section
variable {P : Program} {a : Act} {o : Oper} {j : JM} {H H' : Heap} {w : World} {e : Env} {v : AV} {callF : CallF}

theorem opt_sound (hE : ER j e a.tmps) {x : Option Operand} {y : Option Opd} (h : cOpt x = some y) :
    (x = none ∧ y = none) ∨ ∃ u v, x = some u ∧ y = some v ∧ cOpd u = some v := by
  cases x with
  | none => simp only [cOpt, Option.some.injEq] at h; exact .inl ⟨rfl, h.symm⟩
  | some u => simp only [cOpt, Option.map_eq_some_iff] at h; obtain ⟨v, h1, rfl⟩ := h; exact .inr ⟨u, v, rfl, rfl, h1⟩

theorem natOf_sound {u : AV} {n : Nat} {c : Value} (hu : natOf u = some n) (hv : VR j u c) : ∃ k, c = .int k (n : Int) := by
  cases u <;> simp only [natOf] at hu <;> (try simp at hu; done)
  obtain ⟨hp, hu⟩ := bif_some hu
  simp only [decide_eq_true_eq] at hp
  obtain rfl := Option.some.inj hu
  simp only [VR] at hv
  exact ⟨_, by rw [hv]; congr 1; omega⟩

theorem bound_sound (hE : ER j e a.tmps) {x : Option Operand} {y : Option Opd} (h : cOpt x = some y) {d n : Nat} (hb : bound e d y = some n) :
    (x = none ∧ n = d) ∨ ∃ u k, x = some u ∧ a.eval u = .int k (n : Int) := by
  rcases opt_sound hE h with ⟨rfl, rfl⟩ | ⟨u, v, rfl, rfl, huv⟩
  · simp only [bound, Option.some.injEq] at hb; exact .inl ⟨rfl, hb.symm⟩
  · simp only [bound] at hb
    split at hb
    · rename_i x hx
      obtain ⟨k, hk⟩ := natOf_sound hb (opd_sound hE huv hx)
      exact .inr ⟨u, k, rfl, hk⟩
    · simp at hb

theorem run_sliceBound (k : IntKind) (n y : Nat) (c : BoundsCode) (h : n ≤ y) : (Instr.sliceBound (.int k (n : Int)) y c).run P w = .ok n w := by
  have h1 : (0 : Int) ≤ n ∧ (n : Int) ≤ y := ⟨by omega, by omega⟩
  simp [Instr.sliceBound, asIntOf, h1]

/-- the three bounds of a slice expression -/
theorem run_sliceBounds (hE : ER j e a.tmps) (isSl : Bool) {lo hi mx : Option Operand} {lo' hi' mx' : Option Opd} (h1 : cOpt lo = some lo') (h2 : cOpt hi = some hi') (h3 : cOpt mx = some mx')
    {len cap l hh : Nat} (hl : bound e 0 lo' = some l) (hhi : bound e len hi' = some hh) (hlh : l ≤ hh) (hc : hh ≤ cap)
    (hm : (mx = none) ∨ ∃ m k, hi ≠ none ∧ m ≤ cap ∧ hh ≤ m ∧ ∃ u, mx = some u ∧ a.eval u = .int k (m : Int)) :
    ∃ m, (Instr.sliceBounds isSl len cap (lo.map a.eval) (hi.map a.eval) (mx.map a.eval)).run P w = .ok (l, hh, m) w ∧
      ((mx = none ∧ m = cap) ∨ (hh ≤ m ∧ m ≤ cap ∧ ∃ u k, mx = some u ∧ a.eval u = .int k (m : Int))) := by
  rcases hm with rfl | ⟨m, km, hhne, hmc, hhm, u, rfl, hu⟩
  · refine ⟨cap, ?_, .inl ⟨rfl, rfl⟩⟩
    unfold Instr.sliceBounds
    rcases bound_sound hE h2 hhi with ⟨rfl, rfl⟩ | ⟨v, k, rfl, hv⟩
    · rcases bound_sound hE h1 hl with ⟨rfl, rfl⟩ | ⟨v', k', rfl, hv'⟩
      · simp
      · simp [hv', run_sliceBound _ _ _ _ hlh]
    · rcases bound_sound hE h1 hl with ⟨rfl, rfl⟩ | ⟨v', k', rfl, hv'⟩
      · simp [hv, run_sliceBound _ _ _ _ hc]
      · simp [hv, hv', run_sliceBound _ _ _ _ hc, run_sliceBound _ _ _ _ hlh]
  · refine ⟨m, ?_, .inr ⟨hhm, hmc, u, km, rfl, hu⟩⟩
    unfold Instr.sliceBounds
    rcases bound_sound hE h2 hhi with ⟨rfl, rfl⟩ | ⟨v, k, rfl, hv⟩
    · exact absurd rfl hhne
    · rcases bound_sound hE h1 hl with ⟨rfl, rfl⟩ | ⟨v', k', rfl, hv'⟩
      · simp [hu, hv, run_sliceBound _ _ _ _ hmc, run_sliceBound _ _ _ _ hhm]
      · simp [hu, hv, hv', run_sliceBound _ _ _ _ hmc, run_sliceBound _ _ _ _ hhm, run_sliceBound _ _ _ _ hlh]

theorem does_slice {t : TypeId} {x : Operand} {lo hi mx : Option Operand} {p : AOp} (ho : o.op = .slice t x lo hi mx) (hc : cOp P (.slice t x lo hi mx) = some p) (hw : WR j H w) (hE : ER j e a.tmps)
    (hr : p.run callF e H = some (v, H')) : Does P a o j H w v H' := by
  simp only [cOp, Option.bind_eq_some_iff] at hc
  obtain ⟨xa, hxa, lo', hlo, hi', hhi, mx', hmx, hc⟩ := hc
  unfold cSlice at hc
  split at hc
  · simp at hc
  rename_i hne
  simp only [Bool.and_eq_true, not_and, Bool.not_eq_true] at hne
  have hine : mx ≠ none → hi ≠ none := by
    intro h1 h2
    rcases opt_sound hE hmx with ⟨rfl, _⟩ | ⟨u, v, rfl, rfl, _⟩
    · exact h1 rfl
    · subst h2
      simp only [cOpt, Option.some.injEq] at hhi
      subst hhi
      simp at hne
  split at hc
  · -- the address of an array
    rename_i n el hun
    simp only [Option.map_eq_some_iff] at hc
    obtain ⟨s, hs, rfl⟩ := hc
    obtain ⟨u, hu, h1⟩ := on1_some hr
    have hv := opd_sound hE hxa hu
    cases u <;> (try simp at h1; done)
    rename_i b off
    obtain ⟨hlive, h1⟩ := bif_some h1
    obtain ⟨loc, hl, he⟩ := hv
    split at hlive
    · rename_i cs hcs
      simp only [decide_eq_true_eq] at hlive
      obtain ⟨loc', hl', _, hext, _⟩ := hw.cell b cs hcs
      rw [hl] at hl'
      obtain rfl := Option.some.inj hl'
      have fin : ∀ (l hh m : Nat), l ≤ hh → hh ≤ m → m ≤ n → 0 < s → (Instr.sliceBounds false n n (lo.map a.eval) (hi.map a.eval) (mx.map a.eval)).run P w = .ok (l, hh, m) w →
          v = .sl b (off + l * s) (hh - l) (some (m - l)) s → H' = H → Does P a o j H w v H' := by
        rintro l hh m h2 h3 h4 h5 hrun rfl rfl
        have hmul : l * s + (m - l) * s ≤ n * s := by
          rw [← Nat.add_mul]
          exact Nat.mul_le_mul_right _ (by omega)
        by_cases hml : m = l
        · subst hml
          refine Does.pure (c := .slice (some ⟨loc.blk, loc.off + off, none⟩) (hh - m) (m - m)) hw ⟨loc, m - m, hl, by omega, by omega, by simp, .inr ⟨by omega, _, by rfl⟩⟩ ?_
          simp [execOp, ho, he, Instr.sliceAt, run_underlying hun, Instr.sureAddr, hrun, run_sizeOf hs]
        · refine Does.pure (c := .slice (some ⟨loc.blk, loc.off + (off + l * s), none⟩) (hh - l) (m - l)) hw ⟨loc, m - l, hl, by omega, by omega, by simp, .inl rfl⟩ ?_
          simp [execOp, ho, he, Instr.sliceAt, run_underlying hun, Instr.sureAddr, hrun, run_sizeOf hs, hml, add_lit, Nat.add_assoc]
      split at h1
      · rename_i l hh hl1 hh1 hmq
        obtain ⟨hb, h1⟩ := bif_some h1
        simp only [Bool.and_eq_true, decide_eq_true_eq] at hb
        simp only [Option.some.injEq, Prod.mk.injEq] at h1
        rcases opt_sound hE hmx with ⟨rfl, _⟩ | ⟨u, v, _, h', _⟩
        · obtain ⟨m, hrun, ⟨_, rfl⟩ | ⟨_, _, u, k, h', _⟩⟩ := run_sliceBounds (P := P) (w := w) (cap := n) hE false hlo hhi hmx hl1 hh1 hb.1.1 hb.1.2 (.inl rfl)
          · exact fin l hh _ hb.1.1 hb.1.2 (Nat.le_refl _) hb.2 hrun h1.1.symm h1.2.symm
          · simp at h'
        · simp at h'
      · rename_i l hh mo hl1 hh1 hmq
        split at h1
        · rename_i m hm1
          obtain ⟨hb, h1⟩ := bif_some h1
          simp only [Bool.and_eq_true, decide_eq_true_eq] at hb
          simp only [Option.some.injEq, Prod.mk.injEq] at h1
          rcases bound_sound hE hmx hm1 with ⟨rfl, _⟩ | ⟨u, k, rfl, hu'⟩
          · simp only [cOpt, Option.some.injEq] at hmx; simp at hmx
          · obtain ⟨m', hrun, ⟨h', _⟩ | ⟨_, _, u', k', h', hu''⟩⟩ := run_sliceBounds (P := P) (w := w) (cap := n) hE false hlo hhi hmx hl1 hh1 hb.1.1.1 (by omega) (.inr ⟨m, k, hine (by simp), by omega, by omega, u, rfl, hu'⟩)
            · simp at h'
            · simp only [Option.some.injEq] at h'
              subst h'
              rw [hu'] at hu''
              simp only [Value.int.injEq] at hu''
              have : m' = m := by omega
              subst this
              exact fin l hh m' hb.1.1.1 hb.1.1.2 hb.1.2 hb.2 hrun h1.1.symm h1.2.symm
        · simp at h1
      · simp at h1
    · simp at hlive
  · -- a string
    rename_i hun
    obtain ⟨hmn, hc⟩ := if_some hc
    obtain rfl := Option.some.inj hc
    rcases opt_sound hE hmx with ⟨rfl, _⟩ | ⟨u, v, _, h', _⟩
    case inr => subst h'; simp at hmn
    obtain ⟨u, hu, h1⟩ := on1_some hr
    have hv := opd_sound hE hxa hu
    cases u <;> (try simp at h1; done)
    rename_i st
    simp only at h1
    split at h1
    · rename_i l hh hl1 hh1
      obtain ⟨hb, h1⟩ := bif_some h1
      simp only [Bool.and_eq_true, decide_eq_true_eq] at hb
      simp only [Option.some.injEq, Prod.mk.injEq] at h1
      obtain ⟨rfl, rfl⟩ := h1
      simp only [VR] at hv
      obtain ⟨m, hrun, _⟩ := run_sliceBounds (P := P) (w := w) hE false hlo hhi hmx hl1 hh1 hb.1 hb.2 (.inl rfl)
      simp only [Option.map_none] at hrun
      refine Does.pure (c := .string ⟨((st.drop l).take (hh - l)).toArray⟩) hw (by simp only [VR]) ?_
      have hex : (ByteArray.mk st.toArray).extract l hh = ⟨((st.drop l).take (hh - l)).toArray⟩ := by
        apply ByteArray.ext
        simp [ByteArray.data_extract]
      have hsz : (ByteArray.mk st.toArray).size = st.length := by simp [ByteArray.size]
      simp only [execOp, ho, hv, Instr.sliceAt, Sem.run_bind, run_underlying hun, Result.andThen_ok, Instr.slice, Option.map_none, Option.isSome_none, Bool.false_eq_true, if_false, hsz, hrun, Sem.run_pure, hex]
    · simp at h1
  · -- a slice
    rename_i el hun
    simp only [Option.map_eq_some_iff] at hc
    obtain ⟨s, hs, rfl⟩ := hc
    obtain ⟨u, hu, h1⟩ := on1_some hr
    have hv := opd_sound hE hxa hu
    cases u <;> (try simp at h1; done)
    · -- nil
      simp only at h1
      simp only [VR] at hv
      have fin : ∀ m, (Instr.sliceBounds true 0 0 (lo.map a.eval) (hi.map a.eval) (mx.map a.eval)).run P w = .ok (0, 0, m) w → m = 0 → v = .nilsl → H' = H → Does P a o j H w v H' := by
        rintro m hrun rfl rfl rfl
        refine Does.pure (c := .slice none 0 0) hw rfl ?_
        simp [execOp, ho, hv, Instr.sliceAt, Instr.slice, run_underlying hun, hrun, run_sizeOf hs]
      split at h1
      · rename_i hl1 hh1
        simp only [Option.some.injEq, Prod.mk.injEq] at h1
        rcases opt_sound hE hmx with ⟨rfl, _⟩ | ⟨u, v, _, h', _⟩
        · obtain ⟨m, hrun, ⟨_, rfl⟩ | ⟨_, _, u, k, h', _⟩⟩ := run_sliceBounds (P := P) (w := w) (cap := 0) hE true hlo hhi hmx hl1 hh1 (Nat.le_refl _) (Nat.le_refl _) (.inl rfl)
          · exact fin _ hrun rfl h1.1.symm h1.2.symm
          · simp at h'
        · simp at h'
      · rename_i mo hl1 hh1
        split at h1
        · rename_i hm1
          simp only [Option.some.injEq, Prod.mk.injEq] at h1
          rcases bound_sound hE hmx hm1 with ⟨rfl, _⟩ | ⟨u, k, rfl, hu'⟩
          · simp only [cOpt, Option.some.injEq] at hmx; simp at hmx
          · obtain ⟨m', hrun, ⟨h', _⟩ | ⟨_, hle, _⟩⟩ := run_sliceBounds (P := P) (w := w) (cap := 0) hE true hlo hhi hmx hl1 hh1 (Nat.le_refl _) (Nat.le_refl _) (.inr ⟨0, k, hine (by simp), by omega, by omega, u, rfl, hu'⟩)
            · simp at h'
            · exact fin _ hrun (by omega) h1.1.symm h1.2.symm
        · simp at h1
      · simp at h1
    · rename_i b off ln cap z
      simp only at h1
      obtain ⟨loc, cap', hl, hle, hext, hex, he⟩ := hv
      have fin : ∀ (l hh m : Nat) (mo : Option Nat), (Instr.sliceBounds true ln cap' (lo.map a.eval) (hi.map a.eval) (mx.map a.eval)).run P w = .ok (l, hh, m) w → (∀ k, mo = some k → m = k) → (mo = none → m = cap') →
          pureR H (sliceOf s b off ln cap z l hh mo) = some (v, H') → Does P a o j H w v H' := by
        intro l hh m mo hrun hk hnone hsl
        obtain ⟨hs2, rfl⟩ := pureR_some hsl
        unfold sliceOf at hs2
        obtain ⟨hb, hs3⟩ := bif_some hs2
        simp only [Bool.and_eq_true, decide_eq_true_eq, Nat.beq_eq] at hb
        obtain ⟨⟨⟨⟨h2, h3⟩, h4⟩, rfl⟩, h6⟩ := hb
        obtain rfl := Option.some.inj hs3
        have hm : hh ≤ m ∧ m ≤ cap' := by
          cases mo with
          | none => have := hnone rfl; omega
          | some k => have := hk k rfl; simp only [Bool.and_eq_true, decide_eq_true_eq] at h4; omega
        have hmul : l * z + (m - l) * z ≤ cap' * z := by
          rw [← Nat.add_mul]
          exact Nat.mul_le_mul_right _ (by omega)
        have hcapk : ∀ q, capAfter cap mo l = some q → m - l = q := by
          intro q hq
          unfold capAfter at hq
          cases mo with
          | some k => have := hk k rfl; simp at hq; omega
          | none =>
            cases cap with
            | none => simp at hq
            | some c => have h7 := hex c rfl; have h8 := hnone rfl; simp at hq; omega
        have hrunop : ∀ ad, a.eval x = .slice (some ad) ln cap' → (execOp a.eval o).run P w = .ok (.value (.slice (some (if m = l then ad else ad.add (l * z))) (hh - l) (m - l))) w := by
          intro ad had
          by_cases hml : m = l <;> simp [execOp, ho, had, Instr.sliceAt, Instr.slice, run_underlying hun, hrun, run_sizeOf hs, hml]
        by_cases hml : m = l
        · subst hml
          rcases he with he | ⟨_, ad, he⟩
          · exact Does.pure hw ⟨loc, m - m, hl, by omega, by omega, hcapk, .inr ⟨by omega, _, rfl⟩⟩ (by rw [hrunop _ he, if_pos rfl])
          · exact Does.pure hw ⟨loc, m - m, hl, by omega, by omega, hcapk, .inr ⟨by omega, _, rfl⟩⟩ (by rw [hrunop _ he, if_pos rfl])
        · rcases he with he | ⟨h0, ad, he⟩
          · refine Does.pure (c := .slice (some ⟨loc.blk, loc.off + (off + l * z), none⟩) (hh - l) (m - l)) hw ⟨loc, m - l, hl, by omega, by omega, hcapk, .inl rfl⟩ ?_
            rw [hrunop _ he, if_neg hml, add_lit, Nat.add_assoc]
          · omega
      split at h1
      · rename_i l hh hl1 hh1
        have hsl := h1
        obtain ⟨h1, _⟩ := pureR_some h1
        unfold sliceOf at h1
        obtain ⟨hb, _⟩ := bif_some h1
        simp only [Bool.and_eq_true, decide_eq_true_eq, Nat.beq_eq] at hb
        rcases opt_sound hE hmx with ⟨rfl, _⟩ | ⟨u, v, _, h', _⟩
        · obtain ⟨m, hrun, ⟨_, rfl⟩ | ⟨_, _, u, k, h', _⟩⟩ := run_sliceBounds (P := P) (w := w) (cap := cap') hE true hlo hhi hmx hl1 hh1 hb.1.1.1.1 (by omega) (.inl rfl)
          · exact fin l hh _ none hrun (by simp) (fun _ => rfl) hsl
          · simp at h'
        · simp at h'
      · rename_i l hh mo hl1 hh1
        split at h1
        · rename_i m hm1
          have hsl := h1
          obtain ⟨h1, _⟩ := pureR_some h1
          unfold sliceOf at h1
          obtain ⟨hb, _⟩ := bif_some h1
          simp only [Bool.and_eq_true, decide_eq_true_eq, Nat.beq_eq] at hb
          rcases bound_sound hE hmx hm1 with ⟨rfl, _⟩ | ⟨u, k, rfl, hu'⟩
          · simp only [cOpt, Option.some.injEq] at hmx; simp at hmx
          · obtain ⟨m', hrun, ⟨h', _⟩ | ⟨_, hle', u', k', h', hu''⟩⟩ := run_sliceBounds (P := P) (w := w) (cap := cap') hE true hlo hhi hmx hl1 hh1 hb.1.1.1.1 (by omega) (.inr ⟨m, k, hine (by simp), by omega, by omega, u, rfl, hu'⟩)
            · simp at h'
            · simp only [Option.some.injEq] at h'
              subst h'
              rw [hu'] at hu''
              simp only [Value.int.injEq] at hu''
              exact fin l hh m' (some m) hrun (by intro k hk; simp at hk; omega) (by simp) hsl
        · simp at h1
      · simp at h1
  · simp at hc

end
end Go.Ev

/- Each operation of the evaluator against the loaded one (six): len, append, copy, min, max, calls. -/

namespace Go.Ev
set_option linter.unusedSectionVars false
variable [Home]
set_option linter.unusedVariables false
set_option linter.unusedSimpArgs false
open Go

section
variable {P : Program} {a : Act} {o : Oper} {j : JM} {H H' : Heap} {w : World} {e : Env} {v : AV} {callF : CallF}

theorem lenOf_sound {b : AV} {n : Nat} {c : Value} (h : lenOf b = some n) (hv : VR j b c) : (Builtin.lenOf c).run P w = .ok n w := by
  cases b <;> simp [lenOf] at h <;> subst h
  · simp only [VR] at hv; subst hv; simp [Builtin.lenOf, ByteArray.size]
  · simp only [VR] at hv; subst hv; simp [Builtin.lenOf]
  · obtain ⟨loc, cap', _, _, _, _, rfl | ⟨_, ad, rfl⟩⟩ := hv <;> simp [Builtin.lenOf]

theorem firstCells_sound (hw : WR j H w) {b : AV} {size n k : Nat} {c : Value} {new : List AV} (h : cellsOf H size b = some new) (hn : lenOf b = some n) (hk : k ≤ n) (hv : VR j b c) :
    ∃ l, VRs j (new.take (k * size)) l ∧ (Builtin.firstCells size k c).run P w = .ok l.toArray w := by
  cases b <;> simp only [cellsOf, lenOf, Option.some.injEq] at h hn <;> (try simp at h; done)
  · rename_i st
    obtain ⟨hs, h⟩ := bif_some h
    simp only [Nat.beq_eq] at hs
    subst hs
    obtain rfl := Option.some.inj h
    subst hn
    simp only [VR] at hv
    subst hv
    refine ⟨(st.take k).map fun (b : UInt8) => (Value.int .u8 b.toNat : Value), ?_, ?_⟩
    · rw [Nat.mul_one]
      refine VRs.mk (by simp [bytesOfStr]) (fun i v hi => ?_)
      simp only [bytesOfStr, ← List.map_take, List.getElem?_map, Option.map_eq_some_iff] at hi
      obtain ⟨b, hb, rfl⟩ := hi
      exact ⟨.int .u8 b.toNat, by rw [List.getElem?_map, hb]; rfl, rfl⟩
    · simp only [Builtin.firstCells, Sem.run_pure]
      congr 1
      apply Array.ext'
      simp [ByteArray.data_extract]
  · subst h; subst hn
    simp only [VR] at hv
    subst hv
    exact ⟨[], by simp [VRs], by simp [Builtin.firstCells]⟩
  · rename_i b off ln cap z
    subst hn
    obtain ⟨loc, cap', hl, hle, _, _, he⟩ := hv
    obtain ⟨L, hL, hbd, rfl⟩ := loadAt_some h
    have hmul : k * size ≤ ln * size := Nat.mul_le_mul_right _ hk
    have hld : loadAt H b off (k * size) = some (((L.drop off).take (ln * size)).take (k * size)) := by
      unfold loadAt
      rw [hL]
      simp only [cond_eq_ite, decide_eq_true_eq]
      rw [if_pos (by omega), List.take_take, Nat.min_eq_left hmul]
    obtain ⟨l, hvl, hrun, _⟩ := load_sound (P := P) hw hld hl
    refine ⟨l, hvl, ?_⟩
    rcases he with rfl | ⟨h0, ad, rfl⟩
    · simp [Builtin.firstCells, hrun]
    · have hk0 : k = 0 := by omega
      subst hk0
      have : l = [] := by
        have := VRs.length hvl
        simp at this
        exact this
      subst this
      simp [Builtin.firstCells, loadCells, loadCellsFrom]

theorem cellsOf_length {b : AV} {size n : Nat} {new : List AV} (h : cellsOf H size b = some new) (hn : lenOf b = some n) : new.length = n * size := by
  cases b <;> simp only [cellsOf, lenOf, Option.some.injEq] at h hn <;> (try simp at h; done)
  · obtain ⟨hs, h⟩ := bif_some h
    simp only [Nat.beq_eq] at hs
    subst hs
    obtain rfl := Option.some.inj h
    subst hn
    simp [bytesOfStr]
  · subst h; subst hn; simp
  · subst hn; exact loadAt_length h

theorem growBy_le (newLen : Nat) (h : 256 ≤ newLen) : ∀ r c, Builtin.growBy newLen r c ≤ max c (2 * newLen)
  | 0, c => by simp only [Builtin.growBy]; omega
  | r + 1, c => by
    simp only [Builtin.growBy]
    split
    · omega
    · have := growBy_le newLen h r (c + (c + 768) / 4)
      omega

theorem nextslicecap_le {need cap : Nat} (h : cap < need) : Builtin.nextslicecap need cap ≤ 2 * need := by
  unfold Builtin.nextslicecap
  split
  · omega
  · split
    · omega
    · have := growBy_le need (by omega) 4 cap
      omega

theorem zeroCells_length (z : Array Value) (n : Nat) : (Builtin.zeroCells z n).toList.length = n * z.size := by
  simp [Builtin.zeroCells]

theorem WR.drew (hw : WR j H w) : WR j H w.drew := hw.of_heap (Nat.le_refl _) (fun _ _ _ _ _ => rfl) (Home.keep w _ hw.inv (Nat.le_refl _) (fun _ _ => rfl))

theorem src_sound (hw : WR j H w) {b : AV} {size n : Nat} {c : Value} {new : List AV} {u : TypeId} (h : cellsOf H size b = some new) (hn : lenOf b = some n) (hone : new.all AV.one = true) (hv : VR j b c)
    (hu : (∃ q, P.underlying u = some (.slice q)) ∨ P.underlying u = some .string) : ∃ l, VRs j new l ∧ Src P size u c n l w := by
  have hlen := cellsOf_length h hn
  obtain ⟨l, h1, h2⟩ := firstCells_sound (P := P) hw h hn (Nat.le_refl _) hv
  have htk : new.take (n * size) = new := List.take_of_length_le (by omega)
  rw [htk] at h1
  refine ⟨l, h1, hu, fun w' => lenOf_sound hn hv, h2, ?_, by rw [VRs.length h1, hlen], VRs.ones h1 hone⟩
  obtain ⟨l', h3, h4⟩ := firstCells_sound (P := P) (WR.drew hw) h hn (Nat.le_refl _) hv
  rw [htk] at h3
  have key : l' = l := by
    cases b <;> simp only [cellsOf, lenOf, Option.some.injEq] at h hn <;> (try simp at h; done)
    · simp only [VR] at hv; subst hv
      simp only [Builtin.firstCells, Sem.run_pure, Result.ok.injEq] at h2 h4
      exact List.toArray_inj (h4.1.symm.trans h2.1)
    · subst h
      simp only [VRs] at h1 h3
      rw [h1, h3]
    · rename_i bb off ln cap z
      obtain ⟨loc, cap', hl, hle, _, _, he⟩ := hv
      obtain ⟨l0, _, hrun, hcell⟩ := load_sound (P := P) hw h hl
      obtain ⟨l1, hv1, hrun1, hcell1⟩ := load_sound (P := P) (WR.drew hw) h hl
      have hlen0 : l.length = new.length := VRs.length h1
      have hlen1 : l'.length = new.length := VRs.length h3
      rcases he with rfl | ⟨h0, ad, rfl⟩
      · subst hn
        simp only [Builtin.firstCells] at h2 h4
        rw [hrun] at h2
        rw [hrun1] at h4
        simp only [Result.ok.injEq] at h2 h4
        have e0 := List.toArray_inj h2.1
        have e1 := List.toArray_inj h4.1
        subst e0; subst e1
        apply List.ext_getElem?
        intro i
        by_cases hi : i < l1.length
        · have a1 := hcell1 i l1[i] (List.getElem?_eq_getElem hi)
          have hi0 : i < l0.length := by omega
          have a0 := hcell i l0[i] (List.getElem?_eq_getElem hi0)
          rw [World.cell?_drew] at a1
          rw [List.getElem?_eq_getElem hi, List.getElem?_eq_getElem hi0]
          rw [← a1, ← a0]
        · rw [List.getElem?_eq_none (by omega), List.getElem?_eq_none (by omega)]
      · have : new.length = 0 := by rw [hlen]; have : n = 0 := by omega
                                    rw [this]; simp
        rw [List.eq_nil_of_length_eq_zero (by omega : l.length = 0), List.eq_nil_of_length_eq_zero (by omega : l'.length = 0)]
  rw [← key]; exact h4

theorem run_append_room' {t tx ty el : TypeId} {i : TypeInfo} (ht : P.underlying t = some (.slice el)) (hi : P.info? el = some i) {b off sLen sCap : Nat} {x : Value} {n : Nat} {news : List Value} {w' : World}
    (hs : Src P i.size tx x n news w) (hroom : sLen + n ≤ sCap) (hst : (storeCells ⟨b, off + sLen * i.size, none⟩ news).run P w = .ok () w') :
    (Builtin.append_ #[t, tx] ty #[.slice (some ⟨b, off, none⟩) sLen sCap, x]).run P w = .ok (.slice (some ⟨b, off, none⟩) (sLen + n) sCap) w' := by
  rcases hs.kind with ⟨e', hk⟩ | hk <;> simp [Builtin.append_, run_underlying ht, run_underlying hk, sizeOf, typeInfo, hi, hs.len, hroom, hs.cells, Addr.add_lit, hst]

/-- a new row -/
theorem append_grows (hw : WR j H w) {t u ty el : TypeId} {i : TypeInfo} {zv : Value} {y : Value} {ad : Option Addr} {ln cap' n : Nat} {old new : List AV} {lold lnew : List Value}
    (hel : P.underlying t = some (.slice el)) (hi : P.info? el = some i) (hz : i.zero = some zv) (hzs : zv.cells.size = i.size) (h0 : 0 < i.size) (h0z : 0 < i.bytes)
    (hs : Src P i.size u y n lnew w) (hnew : VRs j new lnew) (hgt : cap' < ln + n) (hlim : (ln + n) * i.bytes ≤ 140737488355328)
    (hold : VRs j old lold) (holdl : old.length = ln * i.size) (hlold : (Builtin.firstCells i.size ln (.slice ad ln cap')).run P w.drew = .ok lold.toArray w.drew) :
    ∃ j' w' c, Trans j H w j' (H.push (old ++ new)) w' ∧ VR j' (.sl H.nb 0 (ln + n) none i.size) c ∧ (Builtin.append_ #[t, u] ty #[.slice ad ln cap', y]).run P w = .ok c w' := by
  have hnc := nextslicecap_le hgt
  have hbytes : (ln + n) ≤ (ln + n) * i.bytes := Nat.le_mul_of_pos_right _ h0z
  have hrun := run_append_grow_src (P := P) w t u ty el i zv hel hi hz ad ln cap' lold hlold y n lnew hs hgt (by omega) (by
    have := Nat.mul_le_mul_right i.bytes hnc
    rw [Nat.mul_assoc] at this
    omega)
  have hcap : ln + n ≤ grownCap w (ln + n) cap' el := by simp [grownCap, Question.cut]
  have hlo := VRs.length hold
  have hln := hs.newsLen
  let rest := (Builtin.zeroCells zv.cells (grownCap w (ln + n) cap' el - (ln + n))).toList
  have hrest : rest.length = (grownCap w (ln + n) cap' el - (ln + n)) * i.size := by rw [← hzs]; exact zeroCells_length ..
  have htot : ((lold ++ lnew) ++ rest).length = grownCap w (ln + n) cap' el * i.size := by
    simp only [List.length_append, hlo, hln, holdl, hrest]
    rw [← Nat.add_mul, ← Nat.add_mul]
    congr 1; omega
  have harr : (lold ++ lnew).toArray ++ Builtin.zeroCells zv.cells (grownCap w (ln + n) cap' el - (ln + n)) = ((lold ++ lnew) ++ rest).toArray := by
    apply Array.ext'
    simp [rest]
  rw [harr] at hrun
  have htr := Trans.push (w' := w.drew.alloc (.cells ((lold ++ lnew) ++ rest).toArray el)) hw (old ++ new) (lold ++ lnew) rest el (0, 0) (VRs.append hold hnew) rfl (.inl (Nat.le_refl _)) rfl rfl rfl
  exact ⟨_, _, _, htr, ⟨_, _, upd_same .., hcap, by simp only [htot]; omega, by simp, .inl rfl⟩, hrun⟩

theorem run_call_builtin {c : Call} {b : Builtin} (ho : o.op = .call c) (hb : c.callee = .builtin b) (w : World) :
    (execOp a.eval o).run P w = (builtin b c.argTypes o.type (c.args.map fun | .const _ => true | _ => false) (c.args.map a.eval)).run P w := by
  simp only [execOp, ho, resolve, hb, invoke, Sem.run_bind, Sem.run_pure, Result.andThen_ok]
  rfl

theorem does_append {c : Call} {x y : Operand} {t u : TypeId} {p : AOp} (ho : o.op = .call c) (hb : c.callee = .builtin .append) (hargs : c.args.toList = [x, y]) (hat : c.argTypes.toList = [t, u])
    {el : TypeId} {s z : Nat} {xa ya : Opd} (hel : elemOf? P t = some el) (hu : (∃ q, P.underlying u = some (.slice q)) ∨ P.underlying u = some .string)
    (hs : size? P el = some s) (hz : bytes? P el = some z) (h0 : 0 < s) (h0z : 0 < z) (hzv : (zeroV? P el).any (fun v => v.cells.size == s) = true)
    (hx : cOpd x = some xa) (hy : cOpd y = some ya) (hp : p = .append s z xa ya) (hw : WR j H w) (hE : ER j e a.tmps)
    (hr : p.run callF e H = some (v, H')) : Does P a o j H w v H' := by
  subst hp
  have ha : c.args = #[x, y] := by apply Array.ext'; simpa using hargs
  have ht : c.argTypes = #[t, u] := by apply Array.ext'; simpa using hat
  have hel' := elemOf_some hel
  have hinfo : ∃ i, P.info? el = some i ∧ i.size = s ∧ i.bytes = z := by
    simp only [size?, bytes?, Option.map_eq_some_iff] at hs hz
    obtain ⟨i, h1, h2⟩ := hs
    obtain ⟨i', h3, h4⟩ := hz
    rw [h1] at h3
    obtain rfl := Option.some.inj h3
    exact ⟨i, h1, h2, h4⟩
  obtain ⟨i, hi, rfl, rfl⟩ := hinfo
  have hzero : ∃ zv, i.zero = some zv ∧ zv.cells.size = i.size := by
    simp only [zeroV?, hi, Option.bind_some, Option.any_eq_true, beq_iff_eq] at hzv
    obtain ⟨zv, h1, h2⟩ := hzv
    exact ⟨zv, h1, h2⟩
  obtain ⟨zv, hzv1, hzv2⟩ := hzero
  obtain ⟨u1, u2, h1, h2, h3⟩ := opt2_some hr
  have e1 := opd_sound hE hx h1
  have e2 := opd_sound hE hy h2
  have fin : ∀ {j' c' w'}, Trans j H w j' H' w' → VR j' v c' → (Builtin.append_ #[t, u] o.type #[a.eval x, a.eval y]).run P w = .ok c' w' → Does P a o j H w v H' := by
    intro j' c' w' htr hvr hrun
    refine ⟨j', c', w', htr, hvr, .inl ?_⟩
    rw [run_call_builtin ho hb]
    simp [builtin, ha, ht, hrun]
  split at h3
  · rename_i new n hnew hn
    obtain ⟨hone, h4⟩ := bif_some h3
    clear h3
    obtain ⟨lnew, hl1, hsrc⟩ := src_sound (P := P) hw hnew hn hone e2 hu
    have hnlen := cellsOf_length hnew hn
    have hsh : u1 = .nilsl ∨ ∃ b off ln cap zz, u1 = .sl b off ln cap zz := by
      cases u1 <;> simp [appendTo] at h4 ⊢
    unfold appendTo at h4
    rcases hsh with rfl | ⟨b, off, ln, cap, zz, rfl⟩
    · -- nil
      simp only [VR] at e1
      simp only [cond_eq_ite, Nat.beq_eq] at h4
      split at h4
      · rename_i hn0
        subst hn0
        simp only [Option.some.injEq, Prod.mk.injEq] at h4
        obtain ⟨rfl, rfl⟩ := h4
        have : lnew = [] := List.eq_nil_of_length_eq_zero (by rw [hsrc.newsLen]; simp)
        subst this
        refine fin (Trans.refl hw) (c' := .slice none 0 0) rfl ?_
        rw [e1]
        exact run_append_nothing w t u o.type el i hel' hi none 0 0 (Nat.le_refl _) _ hsrc
      · rename_i hn0
        split at h4
        · rename_i hlim
          simp only [decide_eq_true_eq] at hlim
          simp only [Option.some.injEq, Prod.mk.injEq] at h4
          obtain ⟨rfl, rfl⟩ := h4
          obtain ⟨j', w', c', htr, hvr, hrun⟩ := append_grows (P := P) (ty := o.type) (ad := none) (ln := 0) (cap' := 0) (old := []) (lold := []) hw hel' hi hzv1 hzv2 h0 h0z hsrc hl1 (by omega) (by simpa using hlim) rfl (by simp)
            (by simp [Builtin.firstCells])
          simp only [List.nil_append, Nat.zero_add] at htr hvr
          exact fin htr hvr (by rw [e1]; exact hrun)
        · simp at h4
    · obtain ⟨loc, cap', hl, hle, hext, hex, he⟩ := e1
      simp only [cond_eq_ite, Nat.beq_eq] at h4
      split at h4
      · rename_i hn0
        subst hn0
        simp only [Option.some.injEq, Prod.mk.injEq] at h4
        obtain ⟨rfl, rfl⟩ := h4
        have : lnew = [] := List.eq_nil_of_length_eq_zero (by rw [hsrc.newsLen]; simp)
        subst this
        rcases he with he | ⟨h0c, ad, he⟩
        · refine fin (Trans.refl hw) (c' := .slice (some ⟨loc.blk, loc.off + off, none⟩) ln cap') ⟨loc, cap', hl, hle, hext, hex, .inl rfl⟩ ?_
          rw [he]
          exact run_append_nothing w t u o.type el i hel' hi _ _ _ hle _ hsrc
        · refine fin (Trans.refl hw) (c' := .slice (some ad) ln cap') ⟨loc, cap', hl, hle, hext, hex, .inr ⟨h0c, ad, rfl⟩⟩ ?_
          rw [he]
          exact run_append_nothing w t u o.type el i hel' hi _ _ _ hle _ hsrc
      · rename_i hn0
        split at h4
        · rename_i hlim
          simp only [Bool.and_eq_true, decide_eq_true_eq, Nat.beq_eq] at hlim
          obtain ⟨hlim, rfl⟩ := hlim
          have grow : ∀ {old : List AV} {m : Nat}, loadAt H b off (ln * i.size) = some old → cap' < ln + n → ∀ (Hk : Heap), Trans j H w j Hk w →
              ∃ j' w' c, Trans j H w j' (Hk.push (old ++ new)) w' ∧ VR j' (.sl Hk.nb 0 (ln + n) none i.size) c ∧ (Builtin.append_ #[t, u] o.type #[a.eval x, a.eval y]).run P w = .ok c w' := by
            intro old m hold hgt Hk hk
            obtain ⟨lold, hvold, hrold, _⟩ := load_sound (P := P) (WR.drew hw) hold hl
            have hol := loadAt_length hold
            have key : ∃ ad, a.eval x = .slice (some ad) ln cap' ∧ (Builtin.firstCells i.size ln (.slice (some ad) ln cap')).run P w.drew = .ok lold.toArray w.drew := by
              rcases he with he | ⟨h0c, ad, he⟩
              · exact ⟨_, he, by simp [Builtin.firstCells, hrold]⟩
              · refine ⟨ad, he, ?_⟩
                have hz : ln = 0 := by omega
                subst hz
                have : lold = [] := List.eq_nil_of_length_eq_zero (by rw [VRs.length hvold, hol]; simp)
                subst this
                simp [Builtin.firstCells, loadCells, loadCellsFrom]
            obtain ⟨ad, hea, hfc⟩ := key
            obtain ⟨j', w', c', htr, hvr, hrun⟩ := append_grows (P := P) (ty := o.type) (ad := some ad) (ln := ln) (cap' := cap') hk.wr hel' hi hzv1 hzv2 h0 h0z hsrc hl1 hgt hlim hvold hol hfc
            exact ⟨j', w', c', hk.trans htr, hvr, by rw [hea]; exact hrun⟩
          split at h4
          · rename_i old m hold
            obtain ⟨hm, h4⟩ := if_some h4
            simp only [Bool.and_eq_true, decide_eq_true_eq] at hm
            simp only [Option.some.injEq, Prod.mk.injEq] at h4
            obtain ⟨rfl, rfl⟩ := h4
            have := hex m rfl
            obtain ⟨j', w', c', htr, hvr, hrun⟩ := grow (m := 0) hold (by omega) H (Trans.refl hw)
            exact fin htr hvr hrun
          · rename_i old hold
            obtain ⟨hro, h4⟩ := if_some h4
            simp only [Option.some.injEq, Prod.mk.injEq] at h4
            obtain ⟨rfl, rfl⟩ := h4
            by_cases hgt : cap' < ln + n
            · obtain ⟨j', w', c', htr, hvr, hrun⟩ := grow (m := 0) hold hgt (H.setTo b none) (Trans.kill hw b)
              exact fin htr hvr hrun
            · have hea : a.eval x = .slice (some ⟨loc.blk, loc.off + off, none⟩) ln cap' := by
                rcases he with he | ⟨h0c, _⟩
                · exact he
                · omega
              have hol := loadAt_length hold
              have hmul : ln * i.size + new.length ≤ cap' * i.size := by
                rw [hnlen, ← Nat.add_mul]
                exact Nat.mul_le_mul_right _ (by omega)
              obtain ⟨w', hst, htr⟩ := Trans.inplace (P := P) (e := cap' * i.size) hw hro hold hl hl1 hone hmul hext
              refine fin htr (c' := .slice (some ⟨loc.blk, loc.off + off, none⟩) (ln + n) cap') ⟨_, cap', upd_same .., by omega, by simp, by simp, .inl rfl⟩ ?_
              rw [hea]
              exact run_append_room' hel' hi hsrc (by omega) hst
          · simp at h4
        · simp at h4
  · simp at h3

theorem does_len {c : Call} {x : Operand} {t : TypeId} {p : AOp} (ho : o.op = .call c) (hb : c.callee = .builtin .len) (hargs : c.args.toList = [x]) (hat : c.argTypes.toList = [t])
    (hc : (match P.underlying t, cOpd x with
      | some .string, some a => some (AOp.len true a)
      | some (.slice _), some a => some (.len false a)
      | some (.array n _), _ => some (.lenC n)
      | _, _ => none) = some p) (hw : WR j H w) (hE : ER j e a.tmps)
    (hr : p.run callF e H = some (v, H')) : Does P a o j H w v H' := by
  have ha : c.args = #[x] := by apply Array.ext'; simpa using hargs
  have ht : c.argTypes = #[t] := by apply Array.ext'; simpa using hat
  have fin : ∀ {n : Nat}, v = .int .i64 n → H' = H → (Builtin.len_ #[t] o.type #[a.eval x]).run P w = .ok (.int .i64 n) w → Does P a o j H w v H' := by
    rintro n rfl rfl hrun
    refine Does.pure hw (c := .int .i64 n) rfl ?_
    rw [run_call_builtin ho hb]
    simp [builtin, ha, ht, hrun]
  split at hc
  · rename_i xa hu hx
    obtain rfl := Option.some.inj hc
    obtain ⟨u, hu1, h1⟩ := on1_some hr
    have e1 := opd_sound hE hx hu1
    cases u <;> simp at h1
    refine fin h1.1.symm h1.2.symm ?_
    rename_i st
    have hsz : (ByteArray.mk st.toArray).size = st.length := by simp [ByteArray.size]
    simp only [VR] at e1; rw [e1]; simp [Builtin.len_, run_underlying hu, hsz, goInt]
  · rename_i xa hu hx
    obtain rfl := Option.some.inj hc
    obtain ⟨u, hu1, h1⟩ := on1_some hr
    have e1 := opd_sound hE hx hu1
    cases u <;> simp at h1
    · refine fin (n := 0) h1.1.symm h1.2.symm ?_
      simp only [VR] at e1; rw [e1]; simp [Builtin.len_, run_underlying hu, goInt]
    · refine fin h1.1.symm h1.2.symm ?_
      obtain ⟨loc, cap', _, _, _, _, he | ⟨_, ad, he⟩⟩ := e1 <;> rw [he] <;> simp [Builtin.len_, run_underlying hu, goInt]
  · rename_i n el hu
    obtain rfl := Option.some.inj hc
    simp only [AOp.run, Option.some.injEq, Prod.mk.injEq] at hr
    refine fin hr.1.symm hr.2.symm ?_
    simp [Builtin.len_, run_underlying hu, goInt]
  · simp at hc

theorem does_copy {c : Call} {x y : Operand} {t u : TypeId} {p : AOp} (ho : o.op = .call c) (hb : c.callee = .builtin .copy) (hargs : c.args.toList = [x, y]) (hat : c.argTypes.toList = [t, u])
    {el : TypeId} {s : Nat} {xa ya : Opd} (hel : elemOf? P t = some el) (hs : size? P el = some s)
    (hx : cOpd x = some xa) (hy : cOpd y = some ya) (hp : p = .copy s xa ya) (hw : WR j H w) (hE : ER j e a.tmps)
    (hr : p.run callF e H = some (v, H')) : Does P a o j H w v H' := by
  subst hp
  have ha : c.args = #[x, y] := by apply Array.ext'; simpa using hargs
  have ht : c.argTypes = #[t, u] := by apply Array.ext'; simpa using hat
  have hel' := elemOf_some hel
  obtain ⟨u1, u2, h1, h2, h3⟩ := opt2_some hr
  have e1 := opd_sound hE hx h1
  have e2 := opd_sound hE hy h2
  have fin : ∀ {w' : World} {n : Nat}, Trans j H w j H' w' → v = .int .i64 n → (Builtin.copy_ #[t, u] o.type #[a.eval x, a.eval y]).run P w = .ok (.int .i64 n) w' → Does P a o j H w v H' := by
    rintro w' n htr rfl hrun
    refine ⟨j, .int .i64 n, w', htr, rfl, .inl ?_⟩
    rw [run_call_builtin ho hb]
    simp [builtin, ha, ht, hrun]
  split at h3
  · rename_i m n hm hn
    split at h3
    · rename_i new hnew
      obtain ⟨l, hl1, hl2⟩ := firstCells_sound (P := P) (k := min n m) hw hnew hn (Nat.min_le_left _ _) e2
      have hlen := lenOf_sound (P := P) (w := w) hn e2
      have hsh : u1 = .nilsl ∨ ∃ b off ln cap zz, u1 = .sl b off ln cap zz := by
        cases u1 <;> simp at h3 ⊢
      rcases hsh with rfl | ⟨b, off, ln, cap, zz, rfl⟩
      · simp only [Option.some.injEq, Prod.mk.injEq] at h3
        obtain ⟨rfl, rfl⟩ := h3
        simp only [lenOf, Option.some.injEq] at hm
        subst hm
        simp only [VR] at e1
        refine fin (n := 0) (Trans.refl hw) rfl ?_
        have hmin : n.min 0 = 0 := Nat.min_zero n
        have hl2' : (Builtin.firstCells s 0 (a.eval y)).run P w = .ok l.toArray w := by simpa using hl2
        simp [Builtin.copy_, run_underlying hel', e1, hlen, run_sizeOf hs, hmin, hl2', goInt]
      · simp only [lenOf, Option.some.injEq] at hm
        subst hm
        simp only at h3
        split at h3
        · rename_i H2 hst
          simp only [Option.some.injEq, Prod.mk.injEq] at h3
          obtain ⟨rfl, rfl⟩ := h3
          obtain ⟨loc, cap', hl, hle, hext, hex, he⟩ := e1
          obtain ⟨w', hrun, htr⟩ := store_sound (P := P) hw hst hl hl1
          have key : ∃ ad, a.eval x = .slice (some ad) ln cap' ∧ (storeCells ad l).run P w = .ok () w' := by
            rcases he with he | ⟨h0c, ad, he⟩
            · exact ⟨_, he, hrun⟩
            · refine ⟨ad, he, ?_⟩
              have hz : ln = 0 := by omega
              subst hz
              have hlz : l = [] := List.eq_nil_of_length_eq_zero (by rw [VRs.length hl1]; simp)
              subst hlz
              simp only [storeCells, Sem.run_pure] at hrun ⊢
              exact hrun
          obtain ⟨ad, hea, hst2⟩ := key
          refine fin htr rfl ?_
          have hl2' : (Builtin.firstCells s (n.min ln) (a.eval y)).run P w = .ok l.toArray w := hl2
          simp [Builtin.copy_, run_underlying hel', hea, hlen, run_sizeOf hs, hl2', hst2, goInt]
        · simp at h3
    · simp at h3
  · simp at h3

theorem minmax2_sound {mx : Bool} {x y r : AV} {c d : Value} (h : minmax2 mx x y = some r) (hx : VR j x c) (hy : VR j y d) :
    ∃ u, VR j r u ∧ ((if mx then Builtin.max2 else Builtin.min2) c d).run P w = .ok u w := by
  cases x <;> cases y <;> simp [minmax2] at h
  subst h
  simp only [VR] at hx hy
  subst hx; subst hy
  cases mx
  · exact ⟨_, rfl, by simp [Builtin.min2]⟩
  · exact ⟨_, rfl, by simp [Builtin.max2]⟩

theorem minmaxL_sound {mx : Bool} : ∀ {ys : List AV} {x r : AV} {c : Value} {ds : List Value}, minmaxL mx x ys = some r → VR j x c → VRs j ys ds →
    ∃ u, VR j r u ∧ (ds.foldlM (if mx then Builtin.max2 else Builtin.min2) c : Sem Value).run P w = .ok u w
  | [], x, r, c, ds, h, hx, hy => by
    simp only [minmaxL, Option.some.injEq] at h
    subst h
    simp only [VRs] at hy
    subst hy
    exact ⟨c, hx, by simp⟩
  | y :: ys, x, r, c, ds, h, hx, hy => by
    obtain ⟨d, ds', rfl, hd, hds⟩ := hy
    simp only [minmaxL] at h
    split at h
    · rename_i z hz
      obtain ⟨u, hu, hrun⟩ := minmax2_sound (P := P) (w := w) hz hx.plain hd.plain
      obtain ⟨u', hu', hrun'⟩ := minmaxL_sound h (hu.mark _) hds
      refine ⟨u', hu', ?_⟩
      rw [List.foldlM_cons, Sem.run_bind, hrun]
      exact hrun'
    · simp at h

theorem does_minmax {c : Call} {mx : Bool} {xs : List Opd} {p : AOp} (ho : o.op = .call c) (hb : c.callee = .builtin (if mx then .max else .min)) (hargs : cOpds c.args.toList = some xs)
    (hp : p = .minmax mx xs) (hw : WR j H w) (hE : ER j e a.tmps)
    (hr : p.run callF e H = some (v, H')) : Does P a o j H w v H' := by
  subst hp
  simp only [AOp.run] at hr
  split at hr
  · rename_i u us hu
    obtain ⟨h1, rfl⟩ := pureR_some hr
    have hall := opds_sound hE hargs hu
    obtain ⟨c0, cs, he, hc0, hcs⟩ := hall
    obtain ⟨r, hr1, hr2⟩ := minmaxL_sound (P := P) (w := w) h1 hc0 hcs
    refine Does.pure hw hr1 ?_
    rw [run_call_builtin ho hb]
    have hal : (c.args.map a.eval).toList = c0 :: cs := by simpa using he
    cases mx
    · simp only [builtin, Builtin.min_, hal, Bool.false_eq_true, if_false, Sem.run_bind]
      simp only [Bool.false_eq_true, if_false] at hr2
      rw [hr2]; rfl
    · simp only [builtin, Builtin.max_, hal, if_true, Sem.run_bind]
      simp only [if_true] at hr2
      rw [hr2]; rfl
  · simp at hr

end
end Go.Ev

/- Statements whose order is open: what may be done in either order. -/

namespace Go.Ev
set_option linter.unusedSectionVars false
variable [Home]
set_option linter.unusedVariables false
set_option linter.unusedSimpArgs false
open Go

def Opd.uses : Opd → List Nat
  | .t n => [n]
  | .c _ => []
def usesL (l : List Opd) : List Nat := l.flatMap Opd.uses
def usesO : Option Opd → List Nat
  | some x => x.uses
  | none => []
def usesP (l : List (Nat × Nat × Opd)) : List Nat := l.flatMap fun x => x.2.2.uses

def AOp.uses : AOp → List Nat
  | .mv x | .un _ x | .convI _ x | .same x | .nilck x | .faddr _ x | .field _ _ _ x | .load _ _ x | .box x | .extract x _ | .len _ x | .toStr x | .toBytes x => x.uses
  | .pick c a b => c.uses ++ (a.uses ++ b.uses)
  | .bin _ x y | .eqB _ x y | .eqN _ _ x y | .eqA _ _ x y | .iaddrA _ _ x y | .iaddrS _ x y | .index _ _ _ x y | .indexStr x y | .store _ x y | .mkSl _ _ _ x y | .append _ _ x y | .copy _ x y => x.uses ++ y.uses
  | .alloc _ | .lenC _ => []
  | .build _ ps => usesP ps
  | .buildSl _ _ _ ps => usesP ps
  | .sliceS _ x lo hi mx => x.uses ++ (usesO lo ++ (usesO hi ++ usesO mx))
  | .sliceStr x lo hi => x.uses ++ (usesO lo ++ usesO hi)
  | .sliceA _ _ x lo hi mx => x.uses ++ (usesO lo ++ (usesO hi ++ usesO mx))
  | .call _ args => usesL args
  | .callv x args => x.uses ++ usesL args
  | .minmax _ xs => usesL xs
  | .mkfn _ a b => usesL a ++ usesL b

/-- 0: the result hangs on the operands alone, the heap is not touched; 1: the heap is read; 2: it is written -/
def AOp.cls (md : Nat → Nat) : AOp → Nat
  | .load _ _ _ => 1
  | .sliceA _ _ _ _ _ _ => 1
  | .toStr _ => 1
  | .call f _ => match md f with
    | 2 => 0
    | 1 => 1
    | _ => 2
  | .callv _ _ => 2
  | .store _ _ _ | .alloc _ | .box _ | .buildSl _ _ _ _ | .mkSl _ _ _ _ _ | .append _ _ _ _ | .copy _ _ _ | .toBytes _ => 2
  | _ => 0

def AIns.uses (i : AIns) : List Nat := match i.guard with
  | some (t, _) => t :: i.op.uses
  | none => i.op.uses

def dstIn (d : Option Nat) (l : List Nat) : Bool := match d with
  | some d => l.contains d
  | none => false

def sameDst (x y : Option Nat) : Bool := match x, y with
  | some a, some b => a.beq b
  | _, _ => false

def commutes (md : Nat → Nat) (x y : AIns) : Bool :=
  !dstIn x.dst y.uses && !dstIn y.dst x.uses && !sameDst x.dst y.dst &&
  ((x.op.cls md).beq 0 || (y.op.cls md).beq 0 || ((x.op.cls md).beq 1 && (y.op.cls md).beq 1))

def Eqv (e e' : Env) : Prop := ∀ t, lk e t = lk e' t
def EqOn (l : List Nat) (e e' : Env) : Prop := ∀ t ∈ l, lk e t = lk e' t

theorem Eqv.refl (e : Env) : Eqv e e := fun _ => rfl
theorem Eqv.symm {e e' : Env} (h : Eqv e e') : Eqv e' e := fun t => (h t).symm
theorem Eqv.trans {a b c : Env} (h : Eqv a b) (k : Eqv b c) : Eqv a c := fun t => (h t).trans (k t)
theorem Eqv.on {e e' : Env} (h : Eqv e e') (l : List Nat) : EqOn l e e' := fun t _ => h t

theorem EqOn.left {l m : List Nat} {e e' : Env} (h : EqOn (l ++ m) e e') : EqOn l e e' := fun t ht => h t (List.mem_append.2 (.inl ht))
theorem EqOn.right {l m : List Nat} {e e' : Env} (h : EqOn (l ++ m) e e') : EqOn m e e' := fun t ht => h t (List.mem_append.2 (.inr ht))

omit [Home] in
theorem lk_put (e : Env) (d : Option Nat) (v : AV) (t : Nat) : lk (putE e d v) t = if d = some t then some v else lk e t := by
  cases d with
  | none => simp [putE]
  | some d =>
    simp only [putE, lk, Option.some.injEq]
    rw [Tr.get_set _ _ _ _ _ (by omega)]
    simp only [eq_comm]

section
variable {callF : CallF} {e e' : Env} {h : Heap}

theorem get_on {x : Opd} (hE : EqOn x.uses e e') : x.get e = x.get e' := by
  cases x with
  | t n => exact hE n (by simp [Opd.uses])
  | c v => rfl

theorem getAll_on : ∀ {l : List Opd}, EqOn (usesL l) e e' → getAll e l = getAll e' l
  | [], _ => rfl
  | x :: l, hE => by
    simp only [usesL, List.flatMap_cons] at hE
    simp only [getAll]
    rw [get_on hE.left, getAll_on (l := l) hE.right]

theorem getParts_on : ∀ {l : List (Nat × Nat × Opd)}, EqOn (usesP l) e e' → getParts e l = getParts e' l
  | [], _ => rfl
  | (a, b, x) :: l, hE => by
    simp only [usesP, List.flatMap_cons] at hE
    simp only [getParts]
    rw [get_on hE.left, getParts_on (l := l) hE.right]

theorem bound_on {d : Nat} {x : Option Opd} (hE : EqOn (usesO x) e e') : bound e d x = bound e' d x := by
  cases x with
  | none => rfl
  | some x => simp only [bound]; rw [get_on hE]

theorem run_on {p : AOp} (hE : EqOn p.uses e e') : p.run callF e h = p.run callF e' h := by
  cases p <;> simp only [AOp.uses] at hE <;> simp only [AOp.run]
  case pick c a b => rw [get_on hE.left, get_on hE.right.left, get_on hE.right.right]
  case build z ps => rw [getParts_on hE]
  case buildSl s n z ps => rw [getParts_on hE]
  case sliceS s x lo hi mx =>
    rw [get_on hE.left]
    have h1 := hE.right
    congr 1
    funext v
    have h2 := h1.right.right
    cases v <;> simp only [bound_on h1.left, bound_on h1.right.left]
    all_goals
      cases mx with
      | none =>
        split <;> first | rfl | (split <;> first | rfl | simp_all) | simp_all
      | some mo =>
        have := bound_on (d := 0) (x := some mo) h2
        split <;> first | rfl | simp_all
  case sliceStr x lo hi =>
    rw [get_on hE.left]
    have h1 := hE.right
    congr 1
    funext v
    cases v <;> simp only [bound_on h1.left, bound_on h1.right]
  case sliceA n s x lo hi mx =>
    rw [get_on hE.left]
    have h1 := hE.right
    congr 1
    funext v
    have h2 := h1.right.right
    cases v <;> simp only [bound_on h1.left, bound_on h1.right.left]
    all_goals
      congr 1
      cases mx with
      | none =>
        split <;> first | rfl | (split <;> first | rfl | simp_all) | simp_all
      | some mo =>
        have := bound_on (d := 0) (x := some mo) h2
        split <;> first | rfl | simp_all
  case call f args => rw [getAll_on hE]
  case callv x args => rw [get_on hE.left, getAll_on hE.right]
  case minmax mx xs => rw [getAll_on hE]
  case mkfn f a b => rw [getAll_on hE.left, getAll_on hE.right]
  all_goals first
    | rfl
    | (rw [get_on hE])
    | (rw [get_on hE.left, get_on hE.right])

def CallCls (callF : CallF) (md : Nat → Nat) : Prop := ∀ f args h v h', callF f args h = some (v, h') →
  (md f = 2 → h' = h ∧ ∀ h2, callF f args h2 = some (v, h2)) ∧ (md f = 1 → h' = h)

theorem on1_ext {x : Option AV} {f : AV → Option (AV × Heap)} {r : AV × Heap} : on1 x f = some r ↔ ∃ a, x = some a ∧ f a = some r := by
  cases x <;> simp [on1]
theorem opt2_ext {x y : Option AV} {f : AV → AV → Option (AV × Heap)} {r : AV × Heap} : opt2 x y f = some r ↔ ∃ a b, x = some a ∧ y = some b ∧ f a b = some r := by
  cases x <;> cases y <;> simp [opt2]
theorem pureR_ext {H H' : Heap} {x : Option AV} {v : AV} : pureR H x = some (v, H') ↔ x = some v ∧ H' = H := by
  cases x <;> simp [pureR, eq_comm]
theorem pureB_ext {H H' : Heap} {n : Bool} {x : Option Bool} {v : AV} : pureB H n x = some (v, H') ↔ ∃ b, x = some b ∧ v = .bool (b != n) ∧ H' = H := by
  cases x <;> simp [pureB, eq_comm]

theorem run_pure {md : Nat → Nat} (hmd : CallCls callF md) {p : AOp} {v : AV} {h' : Heap} (hc : p.cls md = 0) (hr : p.run callF e h = some (v, h')) :
    h' = h ∧ ∀ h2, p.run callF e h2 = some (v, h2) := by
  cases p
  case call f args =>
    simp only [AOp.cls] at hc
    split at hc <;> (try simp at hc; done)
    rename_i h2
    simp only [AOp.run] at hr ⊢
    split at hr
    · rename_i vs hvs
      obtain ⟨h1, _⟩ := hmd _ _ _ _ _ hr
      obtain ⟨rfl, h3⟩ := h1 h2
      exact ⟨rfl, fun h2 => h3 h2⟩
    · simp at hr
  all_goals try (simp [AOp.cls] at hc; done)
  case build z ps =>
    simp only [AOp.run] at hr ⊢
    split at hr
    · split at hr
      · simp only [Option.some.injEq, Prod.mk.injEq] at hr; obtain ⟨rfl, rfl⟩ := hr; exact ⟨rfl, fun _ => rfl⟩
      · simp at hr
    · simp at hr
  case minmax mx xs =>
    simp only [AOp.run] at hr ⊢
    split at hr
    · obtain ⟨h1, rfl⟩ := pureR_some hr; exact ⟨rfl, fun _ => by rw [h1]; rfl⟩
    · simp at hr
  case mkfn f a b =>
    simp only [AOp.run] at hr ⊢
    split at hr
    · simp only [Option.some.injEq, Prod.mk.injEq] at hr; obtain ⟨rfl, rfl⟩ := hr; exact ⟨rfl, fun _ => rfl⟩
    · simp at hr
  case lenC n => simp only [AOp.run, Option.some.injEq, Prod.mk.injEq] at hr ⊢; obtain ⟨rfl, rfl⟩ := hr; exact ⟨rfl, fun _ => by simp⟩
  case mv x => obtain ⟨h1, rfl⟩ := pureR_some hr; exact ⟨rfl, fun _ => pureR_ext.2 ⟨h1, rfl⟩⟩
  case pick c a b =>
    obtain ⟨u, hu, h1⟩ := on1_some hr
    cases u <;> (try simp at h1; done)
    all_goals
      obtain ⟨h2, rfl⟩ := pureR_some h1
      exact ⟨rfl, fun _ => on1_ext.2 ⟨_, hu, pureR_ext.2 ⟨h2, rfl⟩⟩⟩
  case un op x =>
    obtain ⟨u, hu, h1⟩ := on1_some hr
    obtain ⟨h2, rfl⟩ := pureR_some h1
    exact ⟨rfl, fun _ => on1_ext.2 ⟨_, hu, pureR_ext.2 ⟨h2, rfl⟩⟩⟩
  case bin op x y =>
    obtain ⟨u, u', hu, hu', h1⟩ := opt2_some hr
    obtain ⟨h2, rfl⟩ := pureR_some h1
    exact ⟨rfl, fun _ => opt2_ext.2 ⟨_, _, hu, hu', pureR_ext.2 ⟨h2, rfl⟩⟩⟩
  case eqN k n x y =>
    obtain ⟨u, u', hu, hu', h1⟩ := opt2_some hr
    obtain ⟨b, h2, h3, rfl⟩ := pureB_some h1
    exact ⟨rfl, fun _ => opt2_ext.2 ⟨_, _, hu, hu', pureB_ext.2 ⟨b, h2, h3, rfl⟩⟩⟩
  case eqB n x y =>
    obtain ⟨u, u', hu, hu', h1⟩ := opt2_some hr
    obtain ⟨h2, rfl⟩ := pureR_some h1
    exact ⟨rfl, fun _ => opt2_ext.2 ⟨_, _, hu, hu', pureR_ext.2 ⟨h2, rfl⟩⟩⟩
  case eqA ks n x y =>
    obtain ⟨u, u', hu, hu', h1⟩ := opt2_some hr
    obtain ⟨h2, rfl⟩ := pureR_some h1
    exact ⟨rfl, fun _ => opt2_ext.2 ⟨_, _, hu, hu', pureR_ext.2 ⟨h2, rfl⟩⟩⟩
  case convI k x =>
    obtain ⟨u, hu, h1⟩ := on1_some hr
    obtain ⟨h2, rfl⟩ := pureR_some h1
    exact ⟨rfl, fun _ => on1_ext.2 ⟨_, hu, pureR_ext.2 ⟨h2, rfl⟩⟩⟩
  case same x =>
    obtain ⟨u, hu, h1⟩ := on1_some hr
    cases u <;> simp at h1
    obtain ⟨rfl, rfl⟩ := h1
    exact ⟨rfl, fun _ => on1_ext.2 ⟨_, hu, rfl⟩⟩
  case nilck x =>
    obtain ⟨u, hu, h1⟩ := on1_some hr
    cases u <;> simp at h1 <;> obtain ⟨rfl, rfl⟩ := h1 <;> exact ⟨rfl, fun _ => on1_ext.2 ⟨_, hu, rfl⟩⟩
  case faddr off x =>
    obtain ⟨u, hu, h1⟩ := on1_some hr
    cases u <;> simp at h1
    obtain ⟨rfl, rfl⟩ := h1
    exact ⟨rfl, fun _ => on1_ext.2 ⟨_, hu, rfl⟩⟩
  case iaddrA n s x i =>
    obtain ⟨u, u', hu, hu', h1⟩ := opt2_some hr
    cases u <;> cases u' <;> (try simp at h1; done)
    obtain ⟨hb, h1⟩ := bif_some h1
    simp only [Option.some.injEq, Prod.mk.injEq] at h1
    obtain ⟨rfl, rfl⟩ := h1
    exact ⟨rfl, fun _ => opt2_ext.2 ⟨_, _, hu, hu', by simp only [hb, cond_true]⟩⟩
  case iaddrS s x i =>
    obtain ⟨u, u', hu, hu', h1⟩ := opt2_some hr
    cases u <;> cases u' <;> (try simp at h1; done)
    obtain ⟨hb, h1⟩ := bif_some h1
    simp only [Option.some.injEq, Prod.mk.injEq] at h1
    obtain ⟨rfl, rfl⟩ := h1
    exact ⟨rfl, fun _ => opt2_ext.2 ⟨_, _, hu, hu', by simp only [hb, cond_true]⟩⟩
  case field off s g x =>
    obtain ⟨u, hu, h1⟩ := on1_some hr
    cases u <;> (try simp at h1; done)
    obtain ⟨h2, rfl⟩ := pureR_some h1
    exact ⟨rfl, fun _ => on1_ext.2 ⟨_, hu, pureR_ext.2 ⟨h2, rfl⟩⟩⟩
  case index n s g x i =>
    obtain ⟨u, u', hu, hu', h1⟩ := opt2_some hr
    cases u <;> cases u' <;> (try simp at h1; done)
    obtain ⟨hb, h1⟩ := bif_some h1
    obtain ⟨h2, rfl⟩ := pureR_some h1
    exact ⟨rfl, fun _ => opt2_ext.2 ⟨_, _, hu, hu', by simp only [hb, cond_true]; exact pureR_ext.2 ⟨h2, rfl⟩⟩⟩
  case indexStr x i =>
    obtain ⟨u, u', hu, hu', h1⟩ := opt2_some hr
    cases u <;> (try simp at h1; done)
    cases u' <;> (try simp at h1; done)
    obtain ⟨hb, h1⟩ := bif_some h1
    split at h1
    · rename_i b hs
      simp only [Option.some.injEq, Prod.mk.injEq] at h1
      obtain ⟨rfl, rfl⟩ := h1
      exact ⟨rfl, fun _ => opt2_ext.2 ⟨_, _, hu, hu', by simp only [hb, cond_true, hs]⟩⟩
    · simp at h1
  case sliceS s x lo hi mx =>
    obtain ⟨u, hu, h1⟩ := on1_some hr
    cases u <;> (try simp at h1; done)
    · simp only at h1
      split at h1
      · rename_i a1 a2 a3
        simp only [Option.some.injEq, Prod.mk.injEq] at h1
        obtain ⟨rfl, rfl⟩ := h1
        exact ⟨rfl, fun _ => on1_ext.2 ⟨_, hu, by simp only [*]⟩⟩
      · split at h1
        · simp only [Option.some.injEq, Prod.mk.injEq] at h1
          obtain ⟨rfl, rfl⟩ := h1
          exact ⟨rfl, fun _ => on1_ext.2 ⟨_, hu, by simp only [*]⟩⟩
        · simp at h1
      · simp at h1
    · simp only at h1
      split at h1
      · obtain ⟨h2, rfl⟩ := pureR_some h1
        exact ⟨rfl, fun _ => on1_ext.2 ⟨_, hu, by simp only [*]; exact pureR_ext.2 ⟨by simp only [*], rfl⟩⟩⟩
      · split at h1
        · obtain ⟨h2, rfl⟩ := pureR_some h1
          exact ⟨rfl, fun _ => on1_ext.2 ⟨_, hu, by simp only [*]; exact pureR_ext.2 ⟨by simp only [*], rfl⟩⟩⟩
        · simp at h1
      · simp at h1
  case sliceStr x lo hi =>
    obtain ⟨u, hu, h1⟩ := on1_some hr
    cases u <;> (try simp at h1; done)
    simp only at h1
    split at h1
    · obtain ⟨hb, h1⟩ := bif_some h1
      simp only [Option.some.injEq, Prod.mk.injEq] at h1
      obtain ⟨rfl, rfl⟩ := h1
      exact ⟨rfl, fun _ => on1_ext.2 ⟨_, hu, by simp only [*]; rfl⟩⟩
    · simp at h1
  case extract x k =>
    obtain ⟨u, hu, h1⟩ := on1_some hr
    cases u <;> (try simp at h1; done)
    obtain ⟨h2, rfl⟩ := pureR_some h1
    exact ⟨rfl, fun _ => on1_ext.2 ⟨_, hu, pureR_ext.2 ⟨h2, rfl⟩⟩⟩
  case len k x =>
    obtain ⟨u, hu, h1⟩ := on1_some hr
    cases k <;> cases u <;> simp at h1 <;> obtain ⟨rfl, rfl⟩ := h1 <;> exact ⟨rfl, fun _ => on1_ext.2 ⟨_, hu, rfl⟩⟩

theorem run_reads {md : Nat → Nat} (hmd : CallCls callF md) {p : AOp} {v : AV} {h' : Heap} (hc : p.cls md = 1) (hr : p.run callF e h = some (v, h')) : h' = h := by
  cases p
  case call f args =>
    simp only [AOp.cls] at hc
    split at hc <;> (try simp at hc; done)
    rename_i h2
    simp only [AOp.run] at hr
    split at hr
    · exact (hmd _ _ _ _ _ hr).2 h2
    · simp at hr
  all_goals try (simp [AOp.cls] at hc; done)
  case load n g x =>
    obtain ⟨u, hu, h1⟩ := on1_some hr
    cases u <;> (try simp at h1; done)
    simp only at h1
    split at h1
    · cases g
      · simp only [cond_false] at h1
        split at h1
        · simp only [Option.some.injEq, Prod.mk.injEq] at h1; exact h1.2.symm
        · simp at h1
      · simp only [cond_true, Option.some.injEq, Prod.mk.injEq] at h1; exact h1.2.symm
    · simp at h1
  case sliceA n s x lo hi mx =>
    obtain ⟨u, hu, h1⟩ := on1_some hr
    cases u <;> (try simp at h1; done)
    obtain ⟨_, h1⟩ := bif_some h1
    split at h1
    · obtain ⟨_, h1⟩ := bif_some h1
      simp only [Option.some.injEq, Prod.mk.injEq] at h1; exact h1.2.symm
    · split at h1
      · obtain ⟨_, h1⟩ := bif_some h1
        simp only [Option.some.injEq, Prod.mk.injEq] at h1; exact h1.2.symm
      · simp at h1
    · simp at h1
  case toStr x =>
    obtain ⟨u, hu, h1⟩ := on1_some hr
    have h1 : (match cellsOf h 1 u with
      | some cs => (match strOfBytes cs with
        | some s => some (AV.str s, h)
        | none => none)
      | none => none) = some (v, h') := by
      cases u <;> first | exact h1 | simp at h1
    split at h1
    · split at h1
      · simp only [Option.some.injEq, Prod.mk.injEq] at h1; exact h1.2.symm
      · simp at h1
    · simp at h1

end
end Go.Ev

/- One instruction, a statement whose order is open, and the code as a whole. -/

namespace Go.Ev
set_option linter.unusedSectionVars false
variable [Home]
set_option linter.unusedVariables false
set_option linter.unusedSimpArgs false
open Go

def AIns.val (callF : CallF) (i : AIns) (e : Env) (h : Heap) : Option (AV × Heap) :=
  match i.wanted e with
  | some true => i.op.run callF e h
  | some false => some (.tup [], h)
  | none => none

theorem step_val {callF : CallF} {i : AIns} {e e1 : Env} {h h1 : Heap} : i.step callF e h = some (e1, h1) ↔ ∃ v, i.val callF e h = some (v, h1) ∧ e1 = putE e i.dst v := by
  unfold AIns.step AIns.val
  cases hw : i.wanted e with
  | none => simp
  | some b => cases b with
    | false =>
      simp only [Option.some.injEq, Prod.mk.injEq]
      constructor
      · rintro ⟨rfl, rfl⟩; exact ⟨_, ⟨rfl, rfl⟩, rfl⟩
      · rintro ⟨u, ⟨rfl, rfl⟩, rfl⟩; exact ⟨rfl, rfl⟩
    | true =>
      simp only
      cases hr : i.op.run callF e h with
      | none => simp
      | some r =>
        obtain ⟨v, h'⟩ := r
        simp only [Option.some.injEq, Prod.mk.injEq]
        constructor
        · rintro ⟨rfl, rfl⟩; exact ⟨v, ⟨rfl, rfl⟩, rfl⟩
        · rintro ⟨u, ⟨rfl, rfl⟩, rfl⟩; exact ⟨rfl, rfl⟩

section
variable {callF : CallF} {md : Nat → Nat}

theorem wanted_on {i : AIns} {e e' : Env} (hE : EqOn i.uses e e') : i.wanted e = i.wanted e' := by
  unfold AIns.uses at hE
  unfold AIns.wanted
  cases hg : i.guard with
  | none => rfl
  | some g =>
    obtain ⟨t, b⟩ := g
    simp only [hg] at hE
    simp only
    rw [hE t (by simp)]

theorem op_on {i : AIns} {e e' : Env} (hE : EqOn i.uses e e') : EqOn i.op.uses e e' := by
  unfold AIns.uses at hE
  cases hg : i.guard with
  | none => simpa [hg] using hE
  | some g => obtain ⟨t, b⟩ := g; simp only [hg] at hE; exact fun u hu => hE u (List.mem_cons_of_mem _ hu)

theorem val_on {i : AIns} {e e' : Env} {h : Heap} (hE : EqOn i.uses e e') : i.val callF e h = i.val callF e' h := by
  unfold AIns.val
  rw [wanted_on hE, run_on (op_on hE)]

theorem val_pure (hmd : CallCls callF md) {i : AIns} {e : Env} {h h' : Heap} {v : AV} (hc : i.op.cls md = 0) (hv : i.val callF e h = some (v, h')) : h' = h ∧ ∀ h2, i.val callF e h2 = some (v, h2) := by
  unfold AIns.val at hv ⊢
  split at hv
  · exact run_pure hmd hc hv
  · simp only [Option.some.injEq, Prod.mk.injEq] at hv; obtain ⟨rfl, rfl⟩ := hv; exact ⟨rfl, fun _ => rfl⟩
  · simp at hv

theorem val_reads (hmd : CallCls callF md) {i : AIns} {e : Env} {h h' : Heap} {v : AV} (hc : i.op.cls md = 1) (hv : i.val callF e h = some (v, h')) : h' = h := by
  unfold AIns.val at hv
  split at hv
  · exact run_reads hmd hc hv
  · simp only [Option.some.injEq, Prod.mk.injEq] at hv; exact hv.2.symm
  · simp at hv

theorem put_on {e : Env} {d : Option Nat} {v : AV} {l : List Nat} (h : dstIn d l = false) : EqOn l (putE e d v) e := by
  intro t ht
  rw [lk_put]
  cases d with
  | none => simp
  | some d =>
    simp only [dstIn] at h
    have : d ≠ t := by rintro rfl; simp [ht] at h
    simp [this]

theorem put_swap {e : Env} {x y : Option Nat} {u v : AV} (h : sameDst x y = false) : Eqv (putE (putE e x u) y v) (putE (putE e y v) x u) := by
  intro t
  simp only [lk_put]
  cases x <;> cases y <;> simp
  rename_i a b
  have hab : a ≠ b := by rintro rfl; simp [sameDst] at h
  by_cases h1 : a = t <;> by_cases h2 : b = t <;> simp [h1, h2]
  omega

theorem swap (hmd : CallCls callF md) {x y : AIns} {e e1 e2 : Env} {h h1 h2 : Heap} (hc : commutes md x y = true)
    (hx : x.step callF e h = some (e1, h1)) (hy : y.step callF e1 h1 = some (e2, h2)) :
    ∃ e1' h1' e2', y.step callF e h = some (e1', h1') ∧ x.step callF e1' h1' = some (e2', h2) ∧ Eqv e2 e2' := by
  simp only [commutes, Bool.and_eq_true, Bool.not_eq_true', Bool.or_eq_true, Nat.beq_eq] at hc
  obtain ⟨⟨⟨d1, d2⟩, d3⟩, hcl⟩ := hc
  obtain ⟨vx, hvx, rfl⟩ := step_val.1 hx
  obtain ⟨vy, hvy, rfl⟩ := step_val.1 hy
  rw [val_on (put_on d1)] at hvy
  have fin : ∀ h1', y.val callF e h = some (vy, h1') → x.val callF e h1' = some (vx, h2) → ∃ e1' h1' e2', y.step callF e h = some (e1', h1') ∧ x.step callF e1' h1' = some (e2', h2) ∧ Eqv (putE (putE e x.dst vx) y.dst vy) e2' := by
    intro h1' a b
    refine ⟨_, h1', _, step_val.2 ⟨vy, a, rfl⟩, step_val.2 ⟨vx, ?_, rfl⟩, put_swap d3⟩
    rw [val_on (put_on d2)]
    exact b
  rcases hcl with (hp | hp) | ⟨hp, hq⟩
  · obtain ⟨rfl, hall⟩ := val_pure hmd hp hvx
    exact fin h2 hvy (hall h2)
  · obtain ⟨rfl, hall⟩ := val_pure hmd hp hvy
    exact fin h (hall h) hvx
  · obtain rfl := val_reads hmd hp hvx
    obtain rfl := val_reads hmd hq hvy
    exact fin _ hvy hvx

theorem step_eqv {i : AIns} {e e' e1 : Env} {h h1 : Heap} (hE : Eqv e e') (hs : i.step callF e h = some (e1, h1)) : ∃ e1', i.step callF e' h = some (e1', h1) ∧ Eqv e1 e1' := by
  obtain ⟨v, hv, rfl⟩ := step_val.1 hs
  rw [val_on (hE.on _)] at hv
  exact ⟨_, step_val.2 ⟨v, hv, rfl⟩, fun t => by rw [lk_put, lk_put, hE t]⟩

theorem runIns_eqv : ∀ {l : List AIns} {e e' e1 : Env} {h h1 : Heap}, Eqv e e' → runIns callF l e h = some (e1, h1) → ∃ e1', runIns callF l e' h = some (e1', h1) ∧ Eqv e1 e1'
  | [], e, e', e1, h, h1, hE, hs => by
    simp only [runIns, Option.some.injEq, Prod.mk.injEq] at hs
    obtain ⟨rfl, rfl⟩ := hs
    exact ⟨e', rfl, hE⟩
  | i :: l, e, e', e1, h, h1, hE, hs => by
    simp only [runIns] at hs ⊢
    split at hs
    · rename_i ea ha hsa
      obtain ⟨ea', hsa', hE'⟩ := step_eqv hE hsa
      simp only [hsa']
      exact runIns_eqv hE' hs
    · simp at hs

theorem bubble (hmd : CallCls callF md) {i : AIns} {post : List AIns} : ∀ {pre : List AIns} {e e' : Env} {h h' : Heap}, (∀ p ∈ pre, commutes md p i = true) →
    runIns callF (pre ++ i :: post) e h = some (e', h') → ∃ e1 h1 e'', i.step callF e h = some (e1, h1) ∧ runIns callF (pre ++ post) e1 h1 = some (e'', h') ∧ Eqv e' e''
  | [], e, e', h, h', _, hs => by
    simp only [List.nil_append, runIns] at hs
    split at hs
    · rename_i e1 h1 h2
      exact ⟨e1, h1, e', h2, hs, Eqv.refl _⟩
    · simp at hs
  | p :: pre, e, e', h, h', hc, hs => by
    simp only [List.cons_append, runIns] at hs
    split at hs
    · rename_i ea ha hp
      obtain ⟨eb, hb, e'', h1, h2, h3⟩ := bubble hmd (fun q hq => hc q (by simp [hq])) hs
      obtain ⟨e1, hh1, eb', g1, g2, g3⟩ := swap hmd (hc p (by simp)) hp h1
      obtain ⟨e3, g4, g5⟩ := runIns_eqv g3 h2
      exact ⟨e1, hh1, e3, g1, by simp only [List.cons_append, runIns, g2]; exact g4, h3.trans g5⟩
    · simp at hs

/-- the same but for some registers -/
def OffD (D : List Nat) (e e' : Env) : Prop := ∀ t, t ∉ D → lk e t = lk e' t

theorem runIns_off {D : List Nat} : ∀ {l : List AIns} {e e' e1 : Env} {h h1 : Heap}, (∀ i ∈ l, ∀ t ∈ i.uses, t ∉ D) → OffD D e e' → runIns callF l e h = some (e1, h1) → ∃ e1', runIns callF l e' h = some (e1', h1) ∧ OffD D e1 e1'
  | [], e, e', e1, h, h1, _, hE, hs => by
    simp only [runIns, Option.some.injEq, Prod.mk.injEq] at hs
    obtain ⟨rfl, rfl⟩ := hs
    exact ⟨e', rfl, hE⟩
  | i :: l, e, e', e1, h, h1, hu, hE, hs => by
    simp only [runIns] at hs ⊢
    split at hs
    · rename_i ea ha hsa
      obtain ⟨v, hv, rfl⟩ := step_val.1 hsa
      have hv' : i.val callF e' h = some (v, ha) := by rw [← hv]; exact (val_on (fun t ht => hE t (hu i (by simp) t ht))).symm
      have hst : i.step callF e' h = some (putE e' i.dst v, ha) := step_val.2 ⟨v, hv', rfl⟩
      simp only [hst]
      exact runIns_off (fun q hq => hu q (by simp [hq])) (fun t ht => by rw [lk_put, lk_put, hE t ht]) hs
    · simp at hs

theorem runIns_append : ∀ {l m : List AIns} {e e2 : Env} {h h2 : Heap}, runIns callF (l ++ m) e h = some (e2, h2) → ∃ e1 h1, runIns callF l e h = some (e1, h1) ∧ runIns callF m e1 h1 = some (e2, h2)
  | [], m, e, e2, h, h2, hs => ⟨e, h, rfl, hs⟩
  | i :: l, m, e, e2, h, h2, hs => by
    simp only [List.cons_append, runIns] at hs ⊢
    split at hs
    · rename_i ea ha hsa
      exact runIns_append hs
    · simp at hs

theorem runIns_app : ∀ {l m : List AIns} {e e1 e2 : Env} {h h1 h2 : Heap}, runIns callF l e h = some (e1, h1) → runIns callF m e1 h1 = some (e2, h2) → runIns callF (l ++ m) e h = some (e2, h2)
  | [], m, e, e1, e2, h, h1, h2, hs, hm => by
    simp only [runIns, Option.some.injEq, Prod.mk.injEq] at hs
    obtain ⟨rfl, rfl⟩ := hs
    exact hm
  | i :: l, m, e, e1, e2, h, h1, h2, hs, hm => by
    simp only [List.cons_append, runIns] at hs ⊢
    split at hs
    · rename_i ea ha hsa
      exact runIns_app hs hm
    · simp at hs

/-- what needs no heap, some registers left aside -/
theorem runIns_pure (hmd : CallCls callF md) {D : List Nat} : ∀ {l : List AIns} {e e' e1 : Env} {h h1 : Heap}, (∀ i ∈ l, i.op.cls md = 0) → (∀ i ∈ l, ∀ t ∈ i.uses, t ∉ D) → (∀ i ∈ l, ∀ d, i.dst = some d → d ∉ D) → OffD D e e' →
    runIns callF l e h = some (e1, h1) → ∀ h2, ∃ e1', runIns callF l e' h2 = some (e1', h2) ∧ OffD D e1 e1' ∧ ∀ t ∈ D, lk e1' t = lk e' t
  | [], e, e', e1, h, h1, _, _, _, hE, hs, h2 => by
    simp only [runIns, Option.some.injEq, Prod.mk.injEq] at hs
    obtain ⟨rfl, rfl⟩ := hs
    exact ⟨e', rfl, hE, fun _ _ => rfl⟩
  | i :: l, e, e', e1, h, h1, hc, hu, hd, hE, hs, h2 => by
    simp only [runIns] at hs
    split at hs
    · rename_i ea ha hsa
      obtain ⟨v, hv, rfl⟩ := step_val.1 hsa
      obtain ⟨rfl, hall⟩ := val_pure hmd (hc i (by simp)) hv
      have hv' : i.val callF e' h2 = some (v, h2) := by rw [← hall h2]; exact (val_on (fun t ht => hE t (hu i (by simp) t ht))).symm
      have hst : i.step callF e' h2 = some (putE e' i.dst v, h2) := step_val.2 ⟨v, hv', rfl⟩
      obtain ⟨e1', g1, g2, g3⟩ := runIns_pure hmd (e' := putE e' i.dst v) (fun q hq => hc q (by simp [hq])) (fun q hq => hu q (by simp [hq])) (fun q hq => hd q (by simp [hq])) (fun t ht => by rw [lk_put, lk_put, hE t ht]) hs h2
      refine ⟨e1', by simp only [runIns, hst]; exact g1, g2, fun t ht => ?_⟩
      rw [g3 t ht, lk_put, if_neg (fun e => hd i (by simp) t e ht)]
    · simp at hs

theorem runIns_reads (hmd : CallCls callF md) : ∀ {l : List AIns} {e e1 : Env} {h h1 : Heap}, (∀ i ∈ l, i.op.cls md ≤ 1) → runIns callF l e h = some (e1, h1) → h1 = h
  | [], e, e1, h, h1, _, hs => by simp only [runIns, Option.some.injEq, Prod.mk.injEq] at hs; exact hs.2.symm
  | i :: l, e, e1, h, h1, hc, hs => by
    simp only [runIns] at hs
    split at hs
    · rename_i ea ha hsa
      obtain ⟨v, hv, rfl⟩ := step_val.1 hsa
      have := hc i (by simp)
      have e1 : ha = h := by
        rcases Nat.lt_or_ge (i.op.cls md) 1 with h0 | h0
        · exact (val_pure hmd (by omega) hv).1
        · exact val_reads hmd (by omega) hv
      rw [e1] at hs
      exact runIns_reads hmd (fun q hq => hc q (by simp [hq])) hs
    · simp at hs

end

/-! ### masks -/
theorem orAll_spec (ms : List Nat) (p : Nat) : ∀ ds : List Nat, (orAll ms ds).testBit p = true → ∃ d ∈ ds, p = d ∨ (ms.getD d 0).testBit p = true
  | [], h => by simp [orAll] at h
  | d :: ds, h => by
    simp only [orAll, Nat.testBit_or, Bool.or_eq_true] at h
    rcases h with h | h | h
    · exact ⟨d, by simp, .inl (by simpa [Nat.testBit_two_pow, eq_comm] using h)⟩
    · exact ⟨d, by simp, .inr h⟩
    · obtain ⟨d', h1, h2⟩ := orAll_spec ms p ds h; exact ⟨d', by simp [h1], h2⟩

theorem masks_old : ∀ (ds : List (List Nat)) (acc : List Nat) (k : Nat), k < acc.length → (masks ds acc).getD k 0 = acc.getD k 0
  | [], acc, k, _ => rfl
  | d :: ds, acc, k, h => by
    simp only [masks]
    rw [masks_old ds _ k (by simp; omega)]
    simp [List.getD, List.getElem?_append_left h]

theorem masks_spec : ∀ (ds : List (List Nat)) (acc : List Nat) (m p : Nat) (l : List Nat), ds[m]? = some l → (∀ d ∈ l, d < acc.length + m) →
    ((masks ds acc).getD (acc.length + m) 0).testBit p = true → ∃ d ∈ l, p = d ∨ ((masks ds acc).getD d 0).testBit p = true
  | [], _, m, _, _, h, _, _ => by simp at h
  | d0 :: ds, acc, 0, p, l, h, hlt, hb => by
    simp only [List.getElem?_cons_zero, Option.some.injEq] at h
    subst h
    simp only [masks] at hb ⊢
    rw [masks_old ds _ _ (by simp)] at hb
    have : (acc ++ [orAll acc d0]).getD (acc.length + 0) 0 = orAll acc d0 := by simp [List.getD]
    rw [this] at hb
    obtain ⟨d, h1, h2⟩ := orAll_spec acc p d0 hb
    refine ⟨d, h1, h2.imp id (fun h3 => ?_)⟩
    have hd := hlt d h1
    rw [masks_old ds _ d (by simp; omega)]
    simpa [List.getD, List.getElem?_append_left (show d < acc.length by omega)] using h3
  | d0 :: ds, acc, m + 1, p, l, h, hlt, hb => by
    simp only [masks] at hb ⊢
    have := masks_spec ds (acc ++ [orAll acc d0]) m p l (by simpa using h) (fun d hd => by have := hlt d hd; simp; omega) (by simpa [Nat.add_assoc, Nat.add_comm 1 m] using hb)
    exact this

/-- may a region's order be left open? -/
def drawOk (md : Nat → Nat) (is : List AIns) (deps : List (List Nat)) : Bool :=
  let ms := masks deps []
  allBelow is.length fun j => (deps.getD j []).all (fun d => Nat.blt d j) &&
    allBelow j fun i => (ms.getD j 0).testBit i || (match is[i]?, is[j]? with
      | some x, some y => commutes md x y
      | _, _ => false)

end Go.Ev

/- What evaluating turns of the heap: blocks that are not in the log are as they were. Loads whose order against writers is open. -/

namespace Go.Ev
set_option linter.unusedSectionVars false
variable [Home]
set_option linter.unusedVariables false
set_option linter.unusedSimpArgs false
open Go

/-- all blocks of the one are the other's -/
abbrev Heap.In (h h' : Heap) : Prop := ∀ b, h.has b = true → h'.has b = true

structure Mono (h h' : Heap) : Prop where
  next : h.In h'
  same : ∃ pre, h'.log = pre ++ h.log ∧ ∀ b, h.has b = true → b ∉ pre → h'.get b = h.get b

theorem Mono.refl (h : Heap) : Mono h h := ⟨fun _ h => h, [], rfl, fun _ _ _ => rfl⟩

theorem Mono.trans {a b c : Heap} (x : Mono a b) (y : Mono b c) : Mono a c := by
  obtain ⟨n1, p, e1, s1⟩ := x
  obtain ⟨n2, q, e2, s2⟩ := y
  refine ⟨fun x hx => n2 x (n1 x hx), q ++ p, by rw [e2, e1, List.append_assoc], fun k hk hn => ?_⟩
  simp only [List.mem_append, not_or] at hn
  rw [s2 k (n1 k hk) hn.1, s1 k hk hn.2]

theorem Mono.push (h : Heap) (cs : List AV) : Mono h (h.push cs) :=
  ⟨fun b hb => has_push cs hb, [], rfl, fun b hb _ => by rw [Heap.get_push, if_neg (ne_nb hb)]⟩

theorem Mono.pushA (h : Heap) {a : Nat} (ha : a < 8) (cs : List AV) : Mono h (h.pushA a cs) :=
  ⟨fun b hb => has_pushA a cs hb, [], rfl, fun b hb _ => by rw [Heap.get_pushA, if_neg (ne_na ha hb)]⟩

theorem Mono.setTo (h : Heap) (b : Nat) (x : Option (List AV)) : Mono h (h.setTo b x) :=
  ⟨fun _ h => h, [b], rfl, fun k _ hn => by simp at hn; simp [hn]⟩

/-- a block that is not in the log between -/
theorem Mono.keeps {h h1 h' : Heap} (x : Mono h h1) (y : Mono h1 h') {b : Nat} (hb : h.has b = true) (hn : b ∉ h'.log) : h1.get b = h.get b := by
  obtain ⟨_, p, e1, s1⟩ := x
  obtain ⟨_, q, e2, _⟩ := y
  refine s1 b hb (fun hp => hn ?_)
  rw [e2, e1]
  simp [hp]

theorem mono_storeAt {h h' : Heap} {b off : Nat} {vs : List AV} (e : storeAt h b off vs = some h') : Mono h h' := by
  unfold storeAt at e
  obtain ⟨_, e⟩ := bif_some e
  split at e
  · obtain ⟨_, e⟩ := bif_some e
    obtain rfl := Option.some.inj e
    exact Mono.setTo _ _ _
  · simp at e

theorem mono_appendTo {h h' : Heap} {size bytes n : Nat} {x v : AV} {new : List AV} (e : appendTo h size bytes x new n = some (v, h')) : Mono h h' := by
  unfold appendTo at e
  split at e
  · simp only [cond_eq_ite] at e
    split at e
    · simp only [Option.some.injEq, Prod.mk.injEq] at e; obtain ⟨_, rfl⟩ := e; exact Mono.refl _
    · split at e
      · simp only [Option.some.injEq, Prod.mk.injEq] at e; obtain ⟨_, rfl⟩ := e; exact Mono.push _ _
      · simp at e
  · simp only [cond_eq_ite] at e
    split at e
    · simp only [Option.some.injEq, Prod.mk.injEq] at e; obtain ⟨_, rfl⟩ := e; exact Mono.refl _
    · split at e
      · split at e
        · split at e
          · simp only [Option.some.injEq, Prod.mk.injEq] at e; obtain ⟨_, rfl⟩ := e; exact Mono.push _ _
          · simp at e
        · split at e
          · simp only [Option.some.injEq, Prod.mk.injEq] at e; obtain ⟨_, rfl⟩ := e; exact (Mono.setTo _ _ _).trans (Mono.push _ _)
          · simp at e
        · simp at e
      · simp at e
  · simp at e

def CallMono (callF : CallF) : Prop := ∀ f args h v h', callF f args h = some (v, h') → Mono h h'

section
variable {callF : CallF} {md : Nat → Nat}

theorem mono_run (hmd : CallCls callF md) (hmo : CallMono callF) {p : AOp} {e : Env} {h h' : Heap} {v : AV} (hr : p.run callF e h = some (v, h')) : Mono h h' := by
  by_cases h0 : p.cls md = 0
  · rw [(run_pure hmd h0 hr).1]; exact Mono.refl _
  by_cases h1 : p.cls md = 1
  · rw [run_reads hmd h1 hr]; exact Mono.refl _
  cases p
  case call f args =>
    simp only [AOp.run] at hr
    split at hr
    · exact hmo _ _ _ _ _ hr
    · simp at hr
  case callv x args =>
    obtain ⟨u, hu, h2⟩ := on1_some hr
    cases u <;> (try simp at h2; done)
    simp only at h2
    split at h2
    · exact hmo _ _ _ _ _ h2
    · simp at h2
  case store n x y =>
    obtain ⟨a, b, ha, hb, h2⟩ := opt2_ext.1 hr
    cases a <;> (try simp at h2; done)
    simp only at h2
    obtain ⟨_, h2⟩ := bif_some h2
    split at h2
    · rename_i hs; simp only [Option.some.injEq, Prod.mk.injEq] at h2; obtain ⟨_, rfl⟩ := h2; exact mono_storeAt hs
    · simp at h2
  case alloc z =>
    simp only [AOp.run, Option.some.injEq, Prod.mk.injEq] at hr
    obtain ⟨_, rfl⟩ := hr
    exact Mono.push _ _
  case box x =>
    obtain ⟨u, hu, h2⟩ := on1_some hr
    obtain ⟨_, h2⟩ := bif_some h2
    simp only [Option.some.injEq, Prod.mk.injEq] at h2
    obtain ⟨_, rfl⟩ := h2
    exact Mono.push _ _
  case buildSl size n zero parts =>
    simp only [AOp.run] at hr
    split at hr
    · split at hr
      · obtain ⟨_, h2⟩ := bif_some hr
        simp only [Option.some.injEq, Prod.mk.injEq] at h2
        obtain ⟨_, rfl⟩ := h2
        exact Mono.push _ _
      · simp at hr
    · simp at hr
  case mkSl size bytes zero ln cap =>
    obtain ⟨a, b, ha, hb, h2⟩ := opt2_ext.1 hr
    split at h2
    · obtain ⟨_, h2⟩ := bif_some h2
      simp only [Option.some.injEq, Prod.mk.injEq] at h2
      obtain ⟨_, rfl⟩ := h2
      exact Mono.push _ _
    · simp at h2
  case append size bytes x y =>
    obtain ⟨a, b, ha, hb, h2⟩ := opt2_ext.1 hr
    split at h2
    · obtain ⟨_, h2⟩ := bif_some h2
      exact mono_appendTo h2
    · simp at h2
  case copy size x y =>
    obtain ⟨a, b, ha, hb, h2⟩ := opt2_ext.1 hr
    split at h2
    · split at h2
      · split at h2
        · split at h2
          · rename_i hs; simp only [Option.some.injEq, Prod.mk.injEq] at h2; obtain ⟨_, rfl⟩ := h2; exact mono_storeAt hs
          · simp at h2
        · simp only [Option.some.injEq, Prod.mk.injEq] at h2; obtain ⟨_, rfl⟩ := h2; exact Mono.refl _
        · simp at h2
      · simp at h2
    · simp at h2
  case toBytes x =>
    obtain ⟨u, hu, h2⟩ := on1_some hr
    cases u <;> (try simp at h2; done)
    simp only at h2
    obtain ⟨_, h2⟩ := bif_some h2
    simp only [Option.some.injEq, Prod.mk.injEq] at h2
    obtain ⟨_, rfl⟩ := h2
    exact Mono.push _ _
  all_goals (exfalso; simp [AOp.cls] at h0 h1)

theorem mono_val (hmd : CallCls callF md) (hmo : CallMono callF) {i : AIns} {e : Env} {h h' : Heap} {v : AV} (hv : i.val callF e h = some (v, h')) : Mono h h' := by
  unfold AIns.val at hv
  split at hv
  · exact mono_run hmd hmo hv
  · simp only [Option.some.injEq, Prod.mk.injEq] at hv; obtain ⟨_, rfl⟩ := hv; exact Mono.refl _
  · simp at hv

theorem mono_step (hmd : CallCls callF md) (hmo : CallMono callF) {i : AIns} {e e' : Env} {h h' : Heap} (hs : i.step callF e h = some (e', h')) : Mono h h' := by
  obtain ⟨v, hv, _⟩ := step_val.1 hs
  exact mono_val hmd hmo hv

theorem mono_ins (hmd : CallCls callF md) (hmo : CallMono callF) : ∀ {l : List AIns} {e e' : Env} {h h' : Heap}, runIns callF l e h = some (e', h') → Mono h h'
  | [], e, e', h, h', hs => by simp only [runIns, Option.some.injEq, Prod.mk.injEq] at hs; obtain ⟨_, rfl⟩ := hs; exact Mono.refl _
  | i :: l, e, e', h, h', hs => by
    simp only [runIns] at hs
    split at hs
    · rename_i e1 h1 h2
      exact (mono_step hmd hmo h2).trans (mono_ins hmd hmo hs)
    · simp at hs

theorem mono_log {h h' : Heap} (hm : Mono (h.withLog []) h') : Mono h (h'.withLog (h'.log ++ h.log)) := by
  obtain ⟨a, pre, e, s⟩ := hm
  simp at e
  exact ⟨a, h'.log, rfl, fun b hb hn => s b hb (by rw [← e]; exact hn)⟩

theorem mono_evC (hmd : CallCls callF md) (hmo : CallMono callF) {fuel : Nat} : ∀ {c : ACode} {e e' : Env} {h h' : Heap} {x : AEx}, evC callF fuel c e h = some (x, e', h') → Mono h h'
  | .skip, e, e', h, h', x, hr => by simp only [evC, Option.some.injEq, Prod.mk.injEq] at hr; obtain ⟨_, _, rfl⟩ := hr; exact Mono.refl _
  | .ret, e, e', h, h', x, hr => by simp only [evC, Option.some.injEq, Prod.mk.injEq] at hr; obtain ⟨_, _, rfl⟩ := hr; exact Mono.refl _
  | .exit _, e, e', h, h', x, hr => by simp only [evC, Option.some.injEq, Prod.mk.injEq] at hr; obtain ⟨_, _, rfl⟩ := hr; exact Mono.refl _
  | .region ins, e, e', h, h', x, hr => by
    simp only [evC] at hr
    split at hr
    · rename_i e1 h1 h2
      simp only [Option.some.injEq, Prod.mk.injEq] at hr
      obtain ⟨_, _, rfl⟩ := hr
      exact mono_ins hmd hmo h2
    · simp at hr
  | .regionD ins conf, e, e', h, h', x, hr => by
    simp only [evC] at hr
    split at hr
    · rename_i e1 h1 h2
      obtain ⟨_, hr⟩ := bif_some hr
      simp only [Option.some.injEq, Prod.mk.injEq] at hr
      obtain ⟨_, _, rfl⟩ := hr
      exact mono_log (mono_ins hmd hmo h2)
    · simp at hr
  | .seq a b, e, e', h, h', x, hr => by
    simp only [evC] at hr
    split at hr
    · rename_i e1 h1 h2
      exact (mono_evC hmd hmo h2).trans (mono_evC hmd hmo hr)
    · exact mono_evC hmd hmo hr
  | .cond c a b, e, e', h, h', x, hr => by
    simp only [evC] at hr
    split at hr
    · rename_i t _
      cases t
      · exact mono_evC hmd hmo hr
      · exact mono_evC hmd hmo hr
    · rename_i t _
      cases t
      · exact mono_evC hmd hmo hr
      · exact mono_evC hmd hmo hr
    · simp at hr
  | .block id b, e, e', h, h', x, hr => by
    simp only [evC] at hr
    split at hr
    · rename_i id' e1 h1 h2
      simp only [cond_eq_ite] at hr
      split at hr
      · simp only [Option.some.injEq, Prod.mk.injEq] at hr; obtain ⟨_, _, rfl⟩ := hr; exact mono_evC hmd hmo h2
      · simp only [Option.some.injEq, Prod.mk.injEq] at hr; obtain ⟨_, _, rfl⟩ := hr; exact mono_evC hmd hmo h2
    · exact mono_evC hmd hmo hr
  | .loop b, e, e', h, h', x, hr => by
    simp only [evC] at hr
    have key : ∀ (n : Nat) {e h}, loopN (fun e h => evC callF fuel b e h) n e h = some (x, e', h') → Mono h h' := by
      intro n
      induction n with
      | zero => intro e h hl; simp [loopN] at hl
      | succ n ih =>
        intro e h hl
        simp only [loopN] at hl
        split at hl
        · rename_i e1 h1 h2
          exact (mono_evC hmd hmo h2).trans (ih hl)
        · exact mono_evC hmd hmo hl
    exact key _ hr

theorem mono_body (hmd : CallCls callF md) (hmo : CallMono callF) {fuel : Nat} {F : AFunc} {args : List AV} {h h' : Heap} {v : AV} (hr : evBody callF fuel F args h = some (v, h')) : Mono h h' := by
  unfold evBody at hr
  split at hr
  · rename_i e h1 hev
    split at hr
    · simp only [Option.some.injEq, Prod.mk.injEq] at hr; obtain ⟨_, rfl⟩ := hr; exact mono_evC hmd hmo hev
    · simp at hr
  · rename_i e h1 hev
    split at hr
    · simp only [Option.some.injEq, Prod.mk.injEq] at hr; obtain ⟨_, rfl⟩ := hr; exact mono_evC hmd hmo hev
    · simp at hr
  · simp at hr

/-! ### loads whose order is open -/
def AIns.addr (i : AIns) : Option Nat := match i.op with
  | .load _ _ (.t a) => some a
  | _ => none

def inConf (conf : List Nat) (i : AIns) : Bool := match i.addr with
  | some t => conf.contains t
  | none => false

/-- one of the two is a load of a block that the region leaves alone -/
def softly (conf : List Nat) (x y : AIns) : Bool :=
  !dstIn x.dst y.uses && !dstIn y.dst x.uses && !sameDst x.dst y.dst && (inConf conf x || inConf conf y)

/-- behind such a load its address stays -/
def staysB (conf : List Nat) : List AIns → Bool
  | [] => true
  | p :: r => (match p.addr with
    | some t => !(conf.contains t) || (!(dstIn p.dst [t]) && r.all fun q => !(dstIn q.dst [t]))
    | none => true) && staysB conf r

def Stays (conf : List Nat) : List AIns → Prop
  | [] => True
  | p :: r => (∀ t, p.addr = some t → t ∈ conf → dstIn p.dst [t] = false ∧ ∀ q ∈ r, dstIn q.dst [t] = false) ∧ Stays conf r

theorem stays_of {conf : List Nat} : ∀ {l : List AIns}, staysB conf l = true → Stays conf l
  | [], _ => trivial
  | p :: r, h => by
    simp only [staysB, Bool.and_eq_true] at h
    refine ⟨fun t ht hc => ?_, stays_of h.2⟩
    have h1 := h.1
    simp only [ht] at h1
    simpa [hc, List.all_eq_true] using h1

theorem Stays.remove {conf : List Nat} {i : AIns} {post : List AIns} : ∀ {pre : List AIns}, Stays conf (pre ++ i :: post) → Stays conf (pre ++ post)
  | [], h => h.2
  | p :: pre, h => by
    refine ⟨fun t ht hc => ?_, Stays.remove h.2⟩
    obtain ⟨a, b⟩ := h.1 t ht hc
    refine ⟨a, fun q hq => b q ?_⟩
    simp only [List.append_eq, List.mem_append, List.mem_cons] at hq ⊢
    rcases hq with h | h
    · exact .inl h
    · exact .inr (.inr h)

theorem Stays.at {conf : List Nat} {i : AIns} {post : List AIns} : ∀ {pre : List AIns}, Stays conf (pre ++ i :: post) → ∀ t, i.addr = some t → t ∈ conf → dstIn i.dst [t] = false ∧ ∀ q ∈ post, dstIn q.dst [t] = false
  | [], h => h.1
  | _ :: _, h => Stays.at h.2

/-- what was found behind the region -/
def OkConf (conf : List Nat) (h0 : Heap) (e' : Env) (h' : Heap) : Prop :=
  ∀ t ∈ conf, ∀ b o, lk e' t = some (.ptr b o) → h0.has b = true ∧ b ∉ h'.log

theorem okConf_of {e' : Env} {hh : Heap} {h' : Heap} {h0 : Heap} (hn : ∀ b, h0.has b = hh.has b) : ∀ {conf : List Nat}, okConf e' hh h'.log conf = true → OkConf conf h0 e' h'
  | [], _ => fun t ht => by simp at ht
  | t0 :: r, h => by
    simp only [okConf, Bool.and_eq_true] at h
    intro t ht b o hl
    rcases List.mem_cons.1 ht with rfl | ht
    · have h1 := h.1
      simp only [hl, Bool.and_eq_true, List.all_eq_true, Bool.not_eq_true', Nat.blt_eq] at h1
      refine ⟨by rw [hn]; exact h1.1, fun hb => ?_⟩
      have := h1.2 b hb
      simp at this
    · exact okConf_of hn h.2 t ht b o hl

theorem lk_kept : ∀ {l : List AIns} {e e' : Env} {h h' : Heap} {t : Nat}, runIns callF l e h = some (e', h') → (∀ q ∈ l, dstIn q.dst [t] = false) → lk e' t = lk e t
  | [], e, e', h, h', t, hs, _ => by simp only [runIns, Option.some.injEq, Prod.mk.injEq] at hs; obtain ⟨rfl, _⟩ := hs; rfl
  | i :: l, e, e', h, h', t, hs, hq => by
    simp only [runIns] at hs
    split at hs
    · rename_i e1 h1 h2
      rw [lk_kept hs (fun q hq' => hq q (by simp [hq']))]
      obtain ⟨v, _, rfl⟩ := step_val.1 h2
      exact put_on (hq i (by simp)) t (by simp)
    · simp at hs

theorem addr_uses {i : AIns} {t : Nat} (h : i.addr = some t) : t ∈ i.uses := by
  obtain ⟨d, g, op⟩ := i
  unfold AIns.addr at h
  split at h
  · rename_i n ag a ho
    simp only at ho
    subst ho
    obtain rfl := Option.some.inj h
    unfold AIns.uses
    cases g <;> simp [AOp.uses, Opd.uses]
  · simp at h

theorem dst_notin {d : Option Nat} {l : List Nat} {t : Nat} (h : dstIn d l = false) (ht : t ∈ l) : dstIn d [t] = false := by
  cases d with
  | none => rfl
  | some d =>
    simp only [dstIn] at h ⊢
    have : d ≠ t := by rintro rfl; simp [ht] at h
    simp [this]

/-- a load gives the same where its block is the same -/
theorem load_same {i : AIns} {t : Nat} (ha : i.addr = some t) {e : Env} {h h' h2 : Heap} {v : AV} (hv : i.val callF e h = some (v, h')) (hs : ∀ b o, lk e t = some (.ptr b o) → h2.get b = h.get b) :
    h' = h ∧ i.val callF e h2 = some (v, h2) := by
  obtain ⟨d, g, op⟩ := i
  unfold AIns.addr at ha
  split at ha
  · rename_i n ag a ho
    simp only at ho
    subst ho
    obtain rfl := Option.some.inj ha
    unfold AIns.val at hv ⊢
    split at hv
    · simp only [AOp.run, Opd.get] at hv ⊢
      cases hl : lk e a with
      | none => simp [hl, on1] at hv
      | some u =>
        simp only [hl, on1] at hv ⊢
        cases u <;> (try simp at hv; done)
        rename_i b o
        have hg := hs b o hl
        simp only [loadAt] at hv ⊢
        rw [hg]
        split at hv
        · rename_i cs hcs
          cases ag
          · simp only [cond_false] at hv ⊢
            split at hv
            · simp only [Option.some.injEq, Prod.mk.injEq] at hv; obtain ⟨rfl, rfl⟩ := hv; exact ⟨rfl, rfl⟩
            · simp at hv
          · simp only [cond_true, Option.some.injEq, Prod.mk.injEq] at hv ⊢
            obtain ⟨rfl, rfl⟩ := hv
            simp
        · simp at hv
    · simp only [Option.some.injEq, Prod.mk.injEq] at hv ⊢
      obtain ⟨rfl, rfl⟩ := hv
      simp
    · simp at hv
  · simp at ha

theorem inConf_addr {conf : List Nat} {i : AIns} (h : inConf conf i = true) : ∃ t, i.addr = some t ∧ t ∈ conf := by
  unfold inConf at h
  split at h
  · rename_i t ht; exact ⟨t, ht, by simpa using h⟩
  · simp at h

theorem swapD (hmd : CallCls callF md) (hmo : CallMono callF) {conf : List Nat} {x y : AIns} {r : List AIns} {h0 : Heap} {e e1 e2 e' : Env} {h h1 h2 h' : Heap} (hc : commutes md x y = true ∨ softly conf x y = true)
    (hx : x.step callF e h = some (e1, h1)) (hy : y.step callF e1 h1 = some (e2, h2)) (hr : runIns callF r e2 h2 = some (e', h'))
    (hm : h0.In h) (hok : OkConf conf h0 e' h')
    (hsx : ∀ t, x.addr = some t → t ∈ conf → dstIn x.dst [t] = false ∧ ∀ q ∈ r, dstIn q.dst [t] = false) (hsy : ∀ t, y.addr = some t → t ∈ conf → dstIn y.dst [t] = false ∧ ∀ q ∈ r, dstIn q.dst [t] = false) :
    ∃ e1' h1' e2', y.step callF e h = some (e1', h1') ∧ x.step callF e1' h1' = some (e2', h2) ∧ Eqv e2 e2' := by
  rcases hc with hc | hc
  · exact swap hmd hc hx hy
  have m1 := mono_step hmd hmo hx
  have m2 := mono_step hmd hmo hy
  have m3 := mono_ins hmd hmo hr
  simp only [softly, Bool.and_eq_true, Bool.not_eq_true', Bool.or_eq_true] at hc
  obtain ⟨⟨⟨d1, d2⟩, d3⟩, hcl⟩ := hc
  obtain ⟨vx, hvx, rfl⟩ := step_val.1 hx
  obtain ⟨vy, hvy, rfl⟩ := step_val.1 hy
  rw [val_on (put_on d1)] at hvy
  have fin : ∀ h1', y.val callF e h = some (vy, h1') → x.val callF e h1' = some (vx, h2) → ∃ e1' h1' e2', y.step callF e h = some (e1', h1') ∧ x.step callF e1' h1' = some (e2', h2) ∧ Eqv (putE (putE e x.dst vx) y.dst vy) e2' := by
    intro h1' a b
    refine ⟨_, h1', _, step_val.2 ⟨vy, a, rfl⟩, step_val.2 ⟨vx, ?_, rfl⟩, put_swap d3⟩
    rw [val_on (put_on d2)]
    exact b
  rcases hcl with hcl | hcl
  · obtain ⟨t, ht, htc⟩ := inConf_addr hcl
    obtain ⟨s1, s2⟩ := hsx t ht htc
    have hlk : lk e' t = lk e t := by
      rw [lk_kept hr s2]
      have a1 : lk (putE (putE e x.dst vx) y.dst vy) t = lk (putE e x.dst vx) t := put_on (dst_notin d2 (addr_uses ht)) t (by simp)
      rw [a1]
      exact put_on s1 t (by simp)
    obtain ⟨rfl, hx2⟩ := load_same (h2 := h2) ht hvx (fun b o hl => by
      have := hok t htc b o (hlk.trans hl)
      exact (m1.trans m2).keeps m3 (hm b this.1) this.2)
    exact fin _ hvy hx2
  · obtain ⟨t, ht, htc⟩ := inConf_addr hcl
    obtain ⟨s1, s2⟩ := hsy t ht htc
    have hlk : lk e' t = lk e t := by
      rw [lk_kept hr s2]
      have a1 : lk (putE (putE e x.dst vx) y.dst vy) t = lk (putE e x.dst vx) t := put_on s1 t (by simp)
      rw [a1]
      exact put_on (dst_notin d1 (addr_uses ht)) t (by simp)
    obtain ⟨rfl, hy2⟩ := load_same (h2 := h) ht hvy (fun b o hl => by
      have := hok t htc b o (hlk.trans hl)
      exact (m1.keeps (m2.trans m3) (hm b this.1) this.2).symm)
    exact fin _ hy2 hvx

theorem OkConf.eqv {conf : List Nat} {h0 : Heap} {e e' : Env} {h' : Heap} (h : OkConf conf h0 e h') (hE : Eqv e e') : OkConf conf h0 e' h' :=
  fun t ht b o hl => h t ht b o ((hE t).trans hl)

theorem bubbleD (hmd : CallCls callF md) (hmo : CallMono callF) {conf : List Nat} {h0 : Heap} {i : AIns} {post : List AIns} : ∀ {pre : List AIns} {e e' : Env} {h h' : Heap}, (∀ p ∈ pre, commutes md p i = true ∨ softly conf p i = true) →
    runIns callF (pre ++ i :: post) e h = some (e', h') → h0.In h → OkConf conf h0 e' h' → Stays conf (pre ++ i :: post) →
    ∃ e1 h1 e'', i.step callF e h = some (e1, h1) ∧ runIns callF (pre ++ post) e1 h1 = some (e'', h') ∧ Eqv e' e''
  | [], e, e', h, h', _, hs, _, _, _ => by
    simp only [List.nil_append, runIns] at hs
    split at hs
    · rename_i e1 h1 h2
      exact ⟨e1, h1, e', h2, hs, Eqv.refl _⟩
    · simp at hs
  | p :: pre, e, e', h, h', hc, hs, hn, hok, hst => by
    simp only [List.cons_append, runIns] at hs
    split at hs
    · rename_i ea ha hp
      have hn2 : h0.In ha := fun x hx => (mono_step hmd hmo hp).next x (hn x hx)
      obtain ⟨eb, hb, e'', h1, h2, h3⟩ := bubbleD hmd hmo (fun q hq => hc q (by simp [hq])) hs hn2 hok hst.2
      have hsi : ∀ t, i.addr = some t → t ∈ conf → dstIn i.dst [t] = false ∧ ∀ q ∈ pre ++ post, dstIn q.dst [t] = false := by
        intro t ht htc
        obtain ⟨a, b⟩ := Stays.at (pre := p :: pre) hst t ht htc
        refine ⟨a, fun q hq => ?_⟩
        rcases List.mem_append.1 hq with hq | hq
        · rcases hc q (by simp [hq]) with hq2 | hq2
          · simp only [commutes, Bool.and_eq_true, Bool.not_eq_true'] at hq2
            exact dst_notin hq2.1.1.1 (addr_uses ht)
          · simp only [softly, Bool.and_eq_true, Bool.not_eq_true'] at hq2
            exact dst_notin hq2.1.1.1 (addr_uses ht)
        · exact b q hq
      have hsp : ∀ t, p.addr = some t → t ∈ conf → dstIn p.dst [t] = false ∧ ∀ q ∈ pre ++ post, dstIn q.dst [t] = false := by
        intro t ht htc
        obtain ⟨a, b⟩ := hst.1 t ht htc
        refine ⟨a, fun q hq => b q ?_⟩
        simp only [List.append_eq, List.mem_append, List.mem_cons] at hq ⊢
        rcases hq with h | h
        · exact .inl h
        · exact .inr (.inr h)
      obtain ⟨e1, hh1, eb', g1, g2, g3⟩ := swapD hmd hmo (hc p (by simp)) hp h1 h2 hn (hok.eqv h3) hsp hsi
      obtain ⟨e3, g4, g5⟩ := runIns_eqv g3 h2
      exact ⟨e1, hh1, e3, g1, by simp only [List.cons_append, runIns, g2]; exact g4, h3.trans g5⟩
    · simp at hs

end

/-- may a region's order be left open, if these loads' blocks are left alone? -/
def drawOkD (md : Nat → Nat) (conf : List Nat) (is : List AIns) (deps : List (List Nat)) : Bool :=
  let ms := masks deps []
  allBelow is.length fun j => (deps.getD j []).all (fun d => Nat.blt d j) &&
    allBelow j fun i => (ms.getD j 0).testBit i || (match is[i]?, is[j]? with
      | some x, some y => commutes md x y || softly conf x y
      | _, _ => false)

/-- the loads whose order against a writer is open -/
def confOf (md : Nat → Nat) (is : List AIns) (deps : List (List Nat)) : List Nat :=
  let ms := masks deps []
  (List.range is.length).flatMap fun j => (List.range j).flatMap fun i => bif (ms.getD j 0).testBit i then [] else (match is[i]?, is[j]? with
    | some x, some y => bif commutes md x y then [] else (match x.addr, y.addr with
      | some t, _ => [t]
      | none, some t => [t]
      | none, none => [])
    | _, _ => [])

end Go.Ev
