/- The arguments of a law brought into the evaluator's heap, and what the evaluator's answer says of the call. -/
import Derived.Test.YtipdancojcdioaaEvQ
import Derived.Carry
namespace Go.Ev
set_option linter.unusedVariables false
set_option linter.unusedSimpArgs false
open Go Go.RowKit

/-! ### a read-only block more -/
def Heap.pushRo (H : Heap) (cs : List AV) : Heap := (H.push cs).frz

def JM.put (j : JM) (b : Nat) (l : Loc) : JM := fun x => if x = b then some l else j x

theorem Ext.put {j : JM} {H : Heap} {w : World} (hw : WR j H w) (l : Loc) : Ext j (j.put H.next l) := by
  intro b loc h
  have := hw.dom _ _ h
  simp only [JM.put]
  rw [if_neg (by omega)]
  exact h

/-- the base of a law's call: all blocks are read-only -/
structure Base (j : JM) (H : Heap) (w : World) : Prop where
  wr : WR j H w
  ro : H.ro = H.next

theorem Base.empty (w : World) : Base (fun _ => none) Heap.empty w where
  wr := {
    dom := fun b loc h => by simp at h
    hdom := fun b cs h => by simp [Heap.empty, Heap.get, Tr.get] at h
    cell := fun b cs h => by simp [Heap.empty, Heap.get, Tr.get] at h
    own := fun b cs loc _ h => by simp [Heap.empty, Heap.get, Tr.get] at h
    apart := fun b b' cs cs' loc loc' _ _ h => by simp [Heap.empty, Heap.get, Tr.get] at h }
  ro := rfl

theorem Base.noOwn {j : JM} {H : Heap} {w : World} (h : Base j H w) (k : Nat) : ¬ Own j H k := by
  rintro ⟨b, cs, loc, h1, h2, _, _⟩
  have := h.wr.hdom _ _ h2
  have := h.ro
  omega

theorem Base.put {j : JM} {H : Heap} {w : World} (h : Base j H w) {cs : List AV} {l : Loc} (hb : l.blk < w.heap.size) (he : cs.length ≤ l.ext)
    (hc : ∀ i x, cs[i]? = some x → ∃ c, w.cell? ⟨l.blk, l.off + i, none⟩ = some c ∧ ∀ j, VR j x c) : Base (j.put H.next l) (H.pushRo cs) w where
  wr := {
    dom := fun b loc hj => by
      simp only [JM.put] at hj
      split at hj
      · subst b; simp [Heap.pushRo, Heap.push, Heap.frz]
      · have := h.wr.dom _ _ hj
        simp [Heap.pushRo, Heap.push, Heap.frz]; omega
    hdom := fun b cs' hg => by
      simp only [Heap.pushRo, Heap.get_frz, Heap.get_push] at hg
      split at hg
      · subst b; simp [Heap.pushRo, Heap.push, Heap.frz]
      · have := h.wr.hdom _ _ hg
        simp [Heap.pushRo, Heap.push, Heap.frz]; omega
    cell := fun b cs' hg => by
      simp only [Heap.pushRo, Heap.get_frz, Heap.get_push] at hg
      split at hg
      · subst b
        obtain rfl := Option.some.inj hg
        refine ⟨l, by simp [JM.put], hb, he, fun i x hx => ?_⟩
        obtain ⟨c, h1, h2⟩ := hc i x hx
        exact ⟨c, h1, h2 _⟩
      · obtain ⟨loc, h1, h2, h3, h4⟩ := h.wr.cell _ _ hg
        refine ⟨loc, Ext.put h.wr l _ _ h1, h2, h3, fun i x hx => ?_⟩
        obtain ⟨c, h5, h6⟩ := h4 i x hx
        exact ⟨c, h5, h6.mono (Ext.put h.wr l)⟩
    own := fun b cs' loc hr hg => by
      exfalso
      simp only [Heap.pushRo, Heap.get_frz, Heap.get_push] at hg
      simp only [Heap.pushRo, Heap.push, Heap.frz] at hr
      split at hg
      · omega
      · have := h.wr.hdom _ _ hg
        omega
    apart := fun b b' cs' cs'' loc loc' hr _ hg => by
      exfalso
      simp only [Heap.pushRo, Heap.get_frz, Heap.get_push] at hg
      simp only [Heap.pushRo, Heap.push, Heap.frz] at hr
      split at hg
      · omega
      · have := h.wr.hdom _ _ hg
        omega }
  ro := by simp [Heap.pushRo, Heap.push, Heap.frz]

section
variable {H : Type} {enc : TypeId × Value → H} {P : Program} {w : World} {spare : Nat → Bool} {held : Bool} {r : Reach} {b0 : Nat}

/-- a struct or an array -/
theorem imp_row {t : TypeId} {v : Value} {d : DataW H} {p : List MemPlace} {ks : List LK} (dd : Nat) (hk : leaves P dd t = some ks)
    (hu : (match P.underlying t with | some (.struct _) => true | some (.array _ _) => true | _ => false) = true)
    (hval : Value.okWide P w r b0 t v) (h : DataW.Trod enc P w 0 spare held t v d p) :
    ∃ xs, (∀ j, VR j (.agg xs) v) ∧ RowIs ks xs := by
  have : ∃ cs, v = .agg cs := by
    unfold Value.okWide at hval
    split at hu
    · rename_i e; simp only [e] at hval; obtain ⟨cs, rfl, _⟩ := hval; exact ⟨cs, rfl⟩
    · rename_i e; simp only [e] at hval; obtain ⟨cs, rfl, _⟩ := hval; exact ⟨cs, rfl⟩
    · simp at hu
  obtain ⟨cs, rfl⟩ := this
  obtain ⟨fuel, hf⟩ := h
  obtain ⟨xs, h1, h2⟩ := imp_cells dd t ks hk _ _ _ hf
  refine ⟨xs, fun j => ⟨_, ?_, h1 j⟩, h2⟩
  simp [Value.cells]

theorem heap_of_shape {b : Nat} {x : TypeId × Nat} (h : w.shape? b = some x) : b < w.heap.size := by
  unfold World.shape? at h
  cases e : w.heap[b]? with
  | none => simp [e] at h
  | some o => exact (Array.getElem?_eq_some_iff.1 e).1

/-- a slice -/
theorem imp_slice {t e : TypeId} {v : Value} {d : DataW H} {p : List MemPlace} {ks : List LK} (dd : Nat) (ht : P.underlying t = some (.slice e)) (hk : leaves P dd e = some ks) (hc : P.cellsOf e = ks.length)
    (hval : Value.okWide P w r b0 t v) (h : DataW.Trod enc P w 0 spare held t v d p) :
    v = .slice none 0 0 ∨ ∃ blk off len cap xs, v = .slice (some ⟨blk, off, none⟩) len cap ∧ len ≤ cap ∧ cap ≤ maxLen ∧ blk < w.heap.size ∧ RowIs (List.replicate len ks).flatten xs ∧
      ∀ i x, xs[i]? = some x → ∃ c, w.cell? ⟨blk, off + i, none⟩ = some c ∧ ∀ j, VR j x c := by
  obtain ⟨fuel, hf⟩ := h
  have hv : v.cells.toList = [v] ∧ (∀ a len cap, v = .slice (some a) len cap → a.spot = none ∧ a.block < w.heap.size) := by
    unfold Value.okWide at hval
    simp only [ht, Cell.okWide, Cell.ok] at hval
    cases v <;> simp at hval <;> refine ⟨by simp [Value.cells], ?_⟩
    rename_i a len cap
    intro a' len' cap' he
    simp only [Value.slice.injEq] at he
    obtain ⟨rfl, rfl, rfl⟩ := he
    simp at hval
    obtain ⟨_, _, _, hs, x, y, hsh, _⟩ := hval
    exact ⟨hs, heap_of_shape hsh⟩
  rw [hv.1] at hf
  rcases DataW.trod_slice ht hf with ⟨h0, _⟩ | ⟨a, len, cap, elems, rest, n, _, hcs, _, _, hl, hm, hlen, hel, _, _⟩
  · left; simpa using h0
  · right
    have hve : v = .slice (some a) len cap := by simpa using hcs
    obtain ⟨hsp, hblk⟩ := hv.2 _ _ _ hve
    obtain ⟨blk, off, spot⟩ := a
    simp only at hsp hblk
    subst hsp
    have key : ∀ m, m ≤ len → ∃ xs, RowIs (List.replicate m ks).flatten xs ∧ ∀ i x, xs[i]? = some x → ∃ c, w.cell? ⟨blk, off + i, none⟩ = some c ∧ ∀ j, VR j x c := by
      intro m
      induction m with
      | zero => intro _; exact ⟨[], by simp [RowIs], fun i x hx => by simp at hx⟩
      | succ m ih =>
        intro hm'
        obtain ⟨xs, hx1, hx2⟩ := ih (by omega)
        have hh := hel m (by omega)
        have hlt : m < elems.length := by omega
        rw [List.getElem?_eq_getElem hlt, Option.bind_eq_some_iff] at hh
        obtain ⟨cs, hcs1, hcs2⟩ := hh
        obtain ⟨ys, hy1, hy2⟩ := imp_cells dd e ks hk _ _ _ hcs2
        obtain ⟨_, hcl, hcell⟩ := World.cells?_some hcs1
        refine ⟨xs ++ ys, ?_, fun i x hx => ?_⟩
        · rw [List.replicate_succ', List.flatten_append, List.flatten_cons, List.flatten_nil, List.append_nil]
          exact hx1.append hy2
        · have hxl : xs.length = m * ks.length := by rw [hx1.length]; simp
          by_cases hi : i < xs.length
          · rw [List.getElem?_append_left hi] at hx
            exact hx2 i x hx
          · rw [List.getElem?_append_right (by omega)] at hx
            have hyl : ys.length = cs.length := by rw [hy2.length, hcl, hc]
            have hi2 : i - xs.length < ys.length := (List.getElem?_eq_some_iff.1 hx).1
            have hc1 := hcell (i - xs.length) (by omega)
            obtain ⟨c, hc2, hc3⟩ : ∃ c, cs[i - xs.length]? = some c ∧ ∀ j, VR j x c := by
              have hlt : i - xs.length < cs.length := by omega
              refine ⟨cs[i - xs.length]'hlt, List.getElem?_eq_getElem hlt, fun j => ?_⟩
              obtain ⟨c, h1, h2⟩ := (hy1 j).get _ _ hx
              rw [List.getElem?_eq_getElem hlt] at h1
              obtain rfl := Option.some.inj h1
              exact h2
            refine ⟨c, ?_, hc3⟩
            rw [← hc2, ← hc1, WideShapes.add_plain, WideShapes.add_plain, hc, ← hxl]
            rw [show off + i = off + xs.length + (i - xs.length) by omega]
    obtain ⟨xs, hx1, hx2⟩ := key len (Nat.le_refl _)
    exact ⟨blk, off, len, cap, xs, hve, hl, hm, hblk, hx1, hx2⟩

/-- what a slice that is handed in is in the evaluator -/
theorem slice_put {j : JM} {Hp : Heap} (hb : Base j Hp w) {blk off len cap : Nat} {xs : List AV} {ks : List LK} (hl : len ≤ cap) (hblk : blk < w.heap.size) (hrow : RowIs (List.replicate len ks).flatten xs)
    (hcell : ∀ i x, xs[i]? = some x → ∃ c, w.cell? ⟨blk, off + i, none⟩ = some c ∧ ∀ j, VR j x c) :
    ∃ j', Ext j j' ∧ Base j' (Hp.pushRo xs) w ∧ VR j' (.sl Hp.next 0 len none ks.length) (.slice (some ⟨blk, off, none⟩) len cap) := by
  refine ⟨j.put Hp.next ⟨blk, off, cap * ks.length⟩, Ext.put hb.wr _, hb.put hblk ?_ hcell, ?_⟩
  · have := hrow.length
    simp only [List.length_flatten, List.map_replicate, List.sum_replicate_nat] at this
    rw [this]
    exact Nat.mul_le_mul_right _ hl
  · exact ⟨⟨blk, off, cap * ks.length⟩, cap, by simp [JM.put], hl, by simp, fun m hm => by simp at hm, Or.inl (by simp)⟩

/-- a slice that is handed in, in the evaluator: nothing, or a block of its own -/
def SlIn (ks : List LK) (Hp : Heap) (v : AV) (Hp' : Heap) (xs : List AV) (len : Nat) : Prop :=
  (v = .nilsl ∧ Hp' = Hp ∧ xs = [] ∧ len = 0) ∨ (v = .sl Hp.next 0 len none ks.length ∧ Hp' = Hp.pushRo xs ∧ RowIs (List.replicate len ks).flatten xs)

theorem imp_sl {t e : TypeId} {v : Value} {d : DataW H} {p : List MemPlace} {ks : List LK} (dd : Nat) (ht : P.underlying t = some (.slice e)) (hk : leaves P dd e = some ks) (hc : P.cellsOf e = ks.length)
    (hval : Value.okWide P w r b0 t v) (h : DataW.Trod enc P w 0 spare held t v d p) {j : JM} {Hp : Heap} (hb : Base j Hp w) :
    ∃ j' Hp' v' xs len, Ext j j' ∧ Base j' Hp' w ∧ VR j' v' v ∧ SlIn ks Hp v' Hp' xs len ∧ len ≤ maxLen := by
  rcases imp_slice dd ht hk hc hval h with rfl | ⟨blk, off, len, cap, xs, rfl, hl, hm, hblk, hrow, hcell⟩
  · exact ⟨j, Hp, .nilsl, [], 0, Ext.refl j, hb, rfl, .inl ⟨rfl, rfl, rfl, rfl⟩, Nat.zero_le _⟩
  · obtain ⟨j', h1, h2, h3⟩ := slice_put hb hl hblk hrow hcell
    exact ⟨j', _, _, xs, len, h1, h2, h3, .inr ⟨rfl, rfl, hrow⟩, Nat.le_trans hl hm⟩

/-! ### what the evaluator's answer says of the call -/
theorem law_call {md : Nat → Nat} {T : Tab} (hT : GoodTab P md T) (hmix : P.follows .mixedOrders = true) {n f : Nat} {avs : List AV} {Hp : Heap} {j : JM} {args : List Value}
    (hb : Base j Hp w) (hl : VRs j avs args) (hev : ∃ H', evF T n f avs Hp = some (.bool true, H')) : Calls P f args.toArray w fun e W' => e = .returned (.bool true) ∧ Below w.heap.size w W' := by
  obtain ⟨H', hev⟩ := hev
  refine (sound hT hmix hev hb.wr hl).mono ?_
  rintro e W' ⟨j', c, htr, hv, rfl⟩
  simp only [VR] at hv
  subst hv
  exact ⟨rfl, htr.os, htr.tape, htr.output, htr.size, fun k hk => htr.keep k hk (hb.noOwn k)⟩

theorem trodAll_below (hlo : laidOutB P = true) {W W' : World} (hb : Below W.heap.size W W') : ∀ {ts : List TypeId} {vs : List Value} {ds : List (DataW H)} {p : List MemPlace},
    ts.all (fun t => P.readableRec t && decide (t < P.types.size)) = true →
    DataW.TrodAll enc P W 0 (fun _ => true) true ts vs ds p → DataW.TrodAll enc P W' 0 (fun b => decide (b < W.heap.size)) true ts vs ds p
  | [], [], [], _, _, h => h
  | t :: ts, v :: vs, d :: ds, p, ha, ⟨p1, q, h1, h2, h3⟩ => by
    simp only [List.all_cons, Bool.and_eq_true, decide_eq_true_eq] at ha
    refine ⟨p1, q, Below.trod hlo ha.1.1 ha.1.2 h1 hb ?_, trodAll_below hlo hb ha.2 h2, h3⟩
    intro x hx
    obtain ⟨m, hm⟩ := h1
    exact DataW.trod_lt m _ _ _ hm x hx
  | [], _ :: _, _, _, _, h => h.elim
  | [], [], _ :: _, _, _, h => h.elim
  | _ :: _, [], _, _, _, h => h.elim
  | _ :: _, _ :: _, [], _, _, h => h.elim

end
end Go.Ev
