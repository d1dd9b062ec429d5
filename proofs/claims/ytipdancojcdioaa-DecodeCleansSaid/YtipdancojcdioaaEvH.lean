/- Each operation of the evaluator against the loaded one (four). -/
import Derived.Test.YtipdancojcdioaaEvG
import Derived.Laws.BytesString
namespace Go.Ev
set_option linter.unusedVariables false
set_option linter.unusedSimpArgs false
open Go

section
variable {P : Program} {a : Act} {o : Oper} {j : JM} {H H' : Heap} {w : World} {e : Env} {v : AV} {callF : CallF}

theorem elemOf_some {t el : TypeId} (h : elemOf? P t = some el) : P.underlying t = some (.slice el) := by
  unfold elemOf? at h
  split at h
  · rename_i e' hu; rw [hu]; simpa using h
  · simp at h

theorem strBytes_list : ∀ (cs : List AV) (l : List Value) (st : List UInt8), VRs j cs l → strOfBytes cs = some st →
    ∃ ns : List Int, l = ns.map (Value.int .u8) ∧ st = ns.map fun n => UInt8.ofNat n.toNat
  | [], l, st, hl, hst => by
    simp only [VRs] at hl
    subst hl
    simp only [strOfBytes, Option.some.injEq] at hst
    subst hst
    exact ⟨[], rfl, rfl⟩
  | x :: cs, l, st, hl, hst => by
    obtain ⟨c, l', rfl, hc1, hl'⟩ := hl
    cases x with
    | int k n =>
      cases k <;> simp only [strOfBytes] at hst <;> (try simp at hst; done)
      split at hst
      · rename_i s' hs'
        obtain rfl := Option.some.inj hst
        simp only [VR] at hc1
        subst hc1
        obtain ⟨ns, rfl, rfl⟩ := strBytes_list cs l' s' hl' hs'
        exact ⟨n :: ns, rfl, rfl⟩
      · simp at hst
    | _ => simp [strOfBytes] at hst

theorem foldl_push : ∀ (ns : List Int) (acc : List UInt8), ns.foldl (fun (r : ByteArray) n => r.push (UInt8.ofNat n.toNat)) ⟨acc.toArray⟩ = ⟨(acc ++ ns.map fun n => UInt8.ofNat n.toNat).toArray⟩
  | [], acc => by simp
  | n :: ns, acc => by
    simp only [List.foldl_cons, List.map_cons]
    rw [show (ByteArray.mk acc.toArray).push (UInt8.ofNat n.toNat) = ByteArray.mk (acc ++ [UInt8.ofNat n.toNat]).toArray by simp [ByteArray.push], foldl_push ns]
    simp

theorem run_stringToBytes (st : List UInt8) (el : TypeId) (w : World) : ∃ cap w', st.length ≤ cap ∧
    w'.heap = w.heap.push (.cells ((st.map fun (b : UInt8) => (Value.int .u8 b.toNat : Value)) ++ List.replicate (cap - st.length) (Value.int .u8 0)).toArray el (cap, cap + 1)) ∧
    w'.os = w.os ∧ w'.tape = w.tape ∧ w'.output = w.output ∧
    (Conv.stringToBytes el ⟨st.toArray⟩).run P w = .ok (.slice (some ⟨w.heap.size, 0, none⟩) st.length cap) w' := by
  let cap := (Question.appendCap st.length 0 el).cut (w.tape w.drawn (Question.appendCap st.length 0 el))
  have hcap : st.length ≤ cap := by simp [cap, Question.cut]
  let arr : Array Value := ((st.map fun (b : UInt8) => (Value.int .u8 b.toNat : Value)) ++ List.replicate (cap - st.length) (Value.int .u8 0)).toArray
  have harr : arr.size = cap := by simp [arr]; omega
  let w1 : World := { w with drawn := w.drawn + 1, heap := w.heap.push (.cells arr el) }
  have hsh : w1.shape? w.heap.size = some (el, cap) := by
    simp only [World.shape?, w1, Array.getElem?_push_size, harr]
  have hfr : (w1.freeze ⟨w.heap.size, cap, none⟩ 1).heap = w.heap.push (.cells arr el (cap, cap + 1)) := by
    simp only [World.freeze, Nat.one_ne_zero, if_false]
    apply Array.ext_getElem?
    intro i
    rw [Array.getElem?_modify]
    by_cases hi : w.heap.size = i
    · subst hi
      simp [w1]
    · simp only [hi, if_false, w1]
      rw [Array.getElem?_push, Array.getElem?_push]
      simp [Ne.symm hi]
  refine ⟨cap, w1.freeze ⟨w.heap.size, cap, none⟩ 1, hcap, hfr, rfl, rfl, rfl, ?_⟩
  have e1 : (choose (Question.appendCap (ByteArray.mk st.toArray).size 0 el)).run P w = .ok cap { w with drawn := w.drawn + 1 } := by
    rw [run_choose]; rfl
  have e2 : (Array.map (fun b => Value.int IntKind.u8 ↑b.toNat) (ByteArray.mk st.toArray).data ++ Array.replicate (cap - (ByteArray.mk st.toArray).size) (Value.int IntKind.u8 0)) = arr := by
    simp [arr, ByteArray.size]
  unfold Conv.stringToBytes
  rw [Sem.run_bind, e1, Result.andThen_ok]
  simp only [Sem.run_bind, e2, newRow, run_newObj, Result.andThen_ok, Sem.run_pure, markStringish, run_shape]
  change Result.andThen (Sem.run P (match w1.shape? w.heap.size with
    | some (_, n) => freeze { block := w.heap.size, off := n } 1
    | _ => pure ()) w1) _ = _
  rw [hsh]
  rfl

theorem does_conv {s d : TypeId} {x : Operand} {p : AOp} (ho : o.op = .convert s d x) (hc : cOp P (.convert s d x) = some p) (hw : WR j H w) (hE : ER j e a.tmps)
    (hr : p.run callF e H = some (v, H')) : Does P a o j H w v H' := by
  simp only [cOp, Option.bind_eq_some_iff] at hc
  obtain ⟨xa, hxa, hc⟩ := hc
  unfold cConv at hc
  split at hc
  · rename_i ds k hs hd
    obtain rfl := Option.some.inj hc
    obtain ⟨u, hu, h1⟩ := on1_some hr
    have hv := (opd_sound hE hxa hu).plain
    obtain ⟨h2, rfl⟩ := pureR_some h1
    unfold convM at h2
    split at h2 <;> (try simp at h2; done)
    rename_i k1 n1 hu1
    rw [hu1] at hv
    obtain rfl := Option.some.inj h2
    have hR := (opd_sound hE hxa hu).inR hu1
    simp only [VR] at hv
    have hres : VR j (bif u.marked then .sym k (k.wrap n1) (convRng k u.rng).1 (convRng k u.rng).2 else .int k (k.wrap n1)) (.int k (k.wrap n1)) := by
      cases u.marked with
      | false => rfl
      | true =>
        refine ⟨rfl, ?_⟩
        unfold convRng
        split
        · rename_i a b he
          rw [he] at hR
          exact fitRng_sound (hR.1 a rfl) (hR.2 b rfl)
        · exact InR.none _
    refine Does.pure hw hres ?_
    simp [execOp, ho, hv, convert, run_underlying hs, run_underlying hd, Conv.intToInt]
  · rename_i hs hd
    obtain rfl := Option.some.inj hc
    obtain ⟨u, hu, h1⟩ := on1_some hr
    have hv := opd_sound hE hxa hu
    cases u <;> (try simp at h1; done)
    simp only [Option.some.injEq, Prod.mk.injEq] at h1
    obtain ⟨rfl, rfl⟩ := h1
    simp only [VR] at hv
    refine Does.pure hw rfl ?_
    simp [execOp, ho, hv, convert, run_underlying hs, run_underlying hd]
  · rename_i el hs hd
    obtain ⟨hu8, hc⟩ := if_some hc
    obtain rfl := Option.some.inj hc
    obtain ⟨u, hu, h1⟩ := on1_some hr
    have hv := opd_sound hE hxa hu
    have hue : P.underlying el = some (.int .u8) := by
      unfold isU8 at hu8
      split at hu8
      · assumption
      · simp at hu8
    have h1 : (match cellsOf H 1 u with
      | some cs => (match strOfBytes cs with
        | some s => some (AV.str s, H)
        | none => none)
      | none => none) = some (v, H') := by
      cases u <;> first | exact h1 | simp at h1
    have hnstr : ∀ st', u ≠ .str st' := by
      rintro st' rfl
      simp [AOp.run, on1, hu] at hr
    split at h1
    · rename_i cs hcs
      split at h1
      · rename_i st hst
        simp only [Option.some.injEq, Prod.mk.injEq] at h1
        obtain ⟨rfl, rfl⟩ := h1
        cases u with
        | nilsl =>
          simp only [cellsOf, Option.some.injEq] at hcs
          subst hcs
          simp only [strOfBytes, Option.some.injEq] at hst
          subst hst
          simp only [VR] at hv
          refine Does.pure (c := .string .empty) hw (by simp [VR]; rfl) ?_
          simp [execOp, ho, hv, convert, run_underlying hs, run_underlying hd, run_underlying hue, Conv.bytesToString]
        | sl b off ln cap size =>
          simp only [cellsOf, Nat.mul_one] at hcs
          obtain ⟨loc, cap', hl, hle, hext, _, he⟩ := hv
          obtain ⟨l, hvl, hrun, _⟩ := load_sound (P := P) hw hcs hl
          have hlen := loadAt_length hcs
          have hlen2 := VRs.length hvl
          have key : ∃ ad, a.eval x = .slice (some ad) ln cap' ∧ (loadCells ad ln).run P w = .ok l.toArray w := by
            rcases he with he | ⟨h0, ad, he⟩
            · exact ⟨_, he, hrun⟩
            · refine ⟨ad, he, ?_⟩
              have hz : ln = 0 := by omega
              subst hz
              have : l = [] := List.eq_nil_of_length_eq_zero (by omega)
              subst this
              rfl
          obtain ⟨ad, he, hrun⟩ := key
          obtain ⟨ns, rfl, rfl⟩ := strBytes_list cs l st hvl hst
          refine Does.pure (c := .string ⟨(ns.map fun (n : Int) => UInt8.ofNat n.toNat).toArray⟩) hw (by simp only [VR]) ?_
          simp only [execOp, ho, he, Sem.run_bind, run_convert_bytes_string w s d el _ _ _ hs hue hd, run_bytesToString w ad ln cap' ns hrun, Result.andThen_ok, Sem.run_pure]
          have := foldl_push ns []
          simp only [List.nil_append] at this
          rw [← this]
          rfl
        | str st' => exact absurd rfl (hnstr st')
        | _ => simp [cellsOf] at hcs
      · simp at h1
    · simp at h1
  · rename_i el hs hd
    obtain ⟨hu8, hc⟩ := if_some hc
    obtain rfl := Option.some.inj hc
    simp only [Bool.and_eq_true, beq_iff_eq] at hu8
    obtain ⟨u, hu, h1⟩ := on1_some hr
    have hv := opd_sound hE hxa hu
    have hue : P.underlying el = some (.int .u8) := by
      have := hu8.1
      unfold isU8 at this
      split at this
      · assumption
      · simp at this
    cases u <;> (try simp at h1; done)
    rename_i st
    obtain ⟨hlim, h1⟩ := bif_some h1
    simp only [Option.some.injEq, Prod.mk.injEq] at h1
    obtain ⟨rfl, rfl⟩ := h1
    simp only [VR] at hv
    simp only [decide_eq_true_eq] at hlim
    obtain ⟨cap, w', hcap, hheap, ho1, ho2, ho3, hrun⟩ := run_stringToBytes (P := P) st el w
    have hrel : VRs j (bytesOfStr st) (st.map fun (b : UInt8) => (Value.int .u8 b.toNat : Value)) := VRs.mk (by simp [bytesOfStr]) (fun i v hi => by
      simp only [bytesOfStr, List.getElem?_map, Option.map_eq_some_iff] at hi
      obtain ⟨b, hb, rfl⟩ := hi
      exact ⟨.int .u8 b.toNat, by simp [hb], rfl⟩)
    have hlext : ((st.map fun (b : UInt8) => (Value.int .u8 b.toNat : Value)) ++ List.replicate (cap - st.length) (Value.int .u8 0)).length = cap := by simp; omega
    have htr := Trans.push (w' := w') hw (bytesOfStr st) _ _ el (cap, cap + 1) hrel hheap (.inr (by simp only [hlext]; exact Nat.le_refl _)) ho1 ho2 ho3
    refine ⟨_, .slice (some ⟨w.heap.size, 0, none⟩) st.length cap, w', htr, ⟨_, cap, upd_same .., hcap, by simp only [hlext]; omega, by simp, .inl rfl⟩, .inl ?_⟩
    simp only [execOp, ho, hv, convert, Sem.run_bind, run_underlying hs, run_underlying hd, run_underlying hue, Result.andThen_ok, hrun, Sem.run_pure]
  · simp at hc

theorem does_extract {x : Operand} {k : Nat} {p : AOp} (ho : o.op = .extract x k) (hc : cOp P (.extract x k) = some p) (hw : WR j H w) (hE : ER j e a.tmps)
    (hr : p.run callF e H = some (v, H')) : Does P a o j H w v H' := by
  simp only [cOp, Option.map_eq_some_iff] at hc
  obtain ⟨xa, hxa, rfl⟩ := hc
  obtain ⟨u, hu, h1⟩ := on1_some hr
  have hv := opd_sound hE hxa hu
  cases u <;> (try simp at h1; done)
  obtain ⟨h2, rfl⟩ := pureR_some h1
  obtain ⟨l, he, hl⟩ := hv
  obtain ⟨c, hc1, hc2⟩ := VRs.get hl k v h2
  refine Does.pure hw hc2 ?_
  simp [execOp, ho, he, Instr.extract, hc1]

theorem does_mkfn {f : FuncId} {first captured : Array Operand} {p : AOp} (ho : o.op = .makeFunc (.func f) first captured) (hc : cOp P (.makeFunc (.func f) first captured) = some p) (hw : WR j H w) (hE : ER j e a.tmps)
    (hr : p.run callF e H = some (v, H')) : Does P a o j H w v H' := by
  simp only [cOp, Option.bind_eq_some_iff, Option.map_eq_some_iff] at hc
  obtain ⟨xa, hxa, ya, hya, rfl⟩ := hc
  simp only [AOp.run] at hr
  split at hr
  · rename_i vs us h1 h2
    simp only [Option.some.injEq, Prod.mk.injEq] at hr
    obtain ⟨rfl, rfl⟩ := hr
    refine Does.pure hw ⟨_, _, rfl, opds_sound hE hxa h1, opds_sound hE hya h2⟩ ?_
    simp [execOp, ho, Instr.makeFunc, ← Array.toList_map]
  · simp at hr

theorem does_mkSl {t : TypeId} {l c : Operand} {p : AOp} (ho : o.op = .makeSlice t l c) (hc : cOp P (.makeSlice t l c) = some p) (hw : WR j H w) (hE : ER j e a.tmps)
    (hr : p.run callF e H = some (v, H')) : Does P a o j H w v H' := by
  simp only [cOp, Option.bind_eq_some_iff] at hc
  obtain ⟨el, hel, s, hs, by_, hby, z, hz, hc⟩ := hc
  obtain ⟨⟨h0, hzl⟩, hc⟩ := if_some hc
  simp only [Option.bind_eq_some_iff, Option.map_eq_some_iff] at hc
  obtain ⟨la, hla, ca, hca, rfl⟩ := hc
  obtain ⟨u1, u2, h1, h2, h3⟩ := opt2_some hr
  have e1 := opd_sound hE hla h1
  have e2 := opd_sound hE hca h2
  split at h3
  · rename_i n m hn hm
    obtain ⟨hb, h3⟩ := bif_some h3
    simp only [Bool.and_eq_true, decide_eq_true_eq, Nat.beq_eq] at hb
    obtain ⟨⟨⟨hb1, hb2⟩, hb3⟩, hb4⟩ := hb
    simp only [Option.some.injEq, Prod.mk.injEq] at h3
    obtain ⟨rfl, rfl⟩ := h3
    subst hb4
    have nat : ∀ (u : AV) (n : Nat) (c : Value), natOf u = some n → VR j u c → ∃ k, c = .int k (n : Int) := by
      intro u n c hu hv
      cases u <;> simp only [natOf] at hu <;> (try simp at hu; done)
      obtain ⟨hp, hu⟩ := bif_some hu
      simp only [decide_eq_true_eq] at hp
      obtain rfl := Option.some.inj hu
      simp only [VR] at hv
      exact ⟨_, by rw [hv]; congr 1; omega⟩
    obtain ⟨k1, e1⟩ := nat _ _ _ hn e1
    obtain ⟨k2, e2⟩ := nat _ _ _ hm e2
    obtain ⟨zv, hz1, hz2, _⟩ := zero_sound hz
    have hzlen := VRs.length (hz2 j)
    have hel' := elemOf_some hel
    obtain ⟨i, hi, rfl⟩ := run_bytes hby w
    have hrep := rep_sound (hz2 j) n
    have hreplen : ((List.replicate n zv.cells.toList).flatten).length = n * s := by simp; rw [show zv.cells.size = s by rw [← Array.length_toList]; omega]
    refine ⟨_, .slice (some ⟨w.heap.size, 0, none⟩) n n, _, push_sound hw hrep el, ?_, .inl ?_⟩
    · exact ⟨_, n, upd_same .., Nat.le_refl _, by simp only [hreplen]; omega, by simp, .inl rfl⟩
    · have hzs : zv.cells.toList.length = s := by omega
      have hrm := range_map_rep zv.cells.toList n s hzs h0
      simp only [Array.toArray_toList] at hrm
      have w1 : IntKind.i64.wrap (n : Int) = n := by
        simp only [IntKind.wrap, IntKind.signed, IntKind.bits, Bool.true_and]
        have : (n : Int) % 2 ^ 64 = n := Int.emod_eq_of_lt (by omega) (by omega)
        simp only [this]
        rw [if_neg (by simp; omega)]
      have hb2' : ¬ ((2 : Int) ^ 48 < (i.bytes : Int) * (n : Int)) := by
        have : ((i.bytes * n : Nat) : Int) ≤ 140737488355328 := by omega
        rw [Int.natCast_mul] at this
        omega
      simp only [execOp, ho, e1, e2, Sem.run_bind, Instr.makeSlice, run_underlying hel', Result.andThen_ok, asInt, asIntOf, Sem.run_pure, hi, w1]
      have hlt : ¬ ((n : Int) < 0) := by omega
      simp only [hlt, gt_iff_lt, hb2', decide_false, Bool.or_self, Int.lt_irrefl, Bool.false_eq_true, if_false, Sem.run_ite, Sem.run_bind, run_askRoom, Result.andThen_ok, run_sizeOf hs, Int.toNat_natCast]
      by_cases hn0 : n * s = 0
      · have : n = 0 := by
          rcases Nat.mul_eq_zero.1 hn0 with h | h
          · exact h
          · omega
        subst this
        simp [newRow, Array.range_zero']
      · simp only [hn0, if_false, Sem.run_bind, Sem.run_pure, run_zeroV hz1, Result.andThen_ok]
        rw [hrm]
        simp [newRow]
  · simp at h3

end
end Go.Ev
