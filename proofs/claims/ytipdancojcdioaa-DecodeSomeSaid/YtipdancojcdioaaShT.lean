/- Laws: what the laws' arguments are in the shallow reading; and the evaluator's answer by the contract. No condition. -/
import Derived.Test.YtipdancojcdioaaShS
namespace Go.Sh
set_option linter.unusedVariables false
set_option linter.unusedSimpArgs false
open Go Go.Ev

def Ty.lks : Ty → List LK
  | .int k => [.int k]
  | .flt k => [.float k]
  | .bool => [.bool]
  | .str => [.str]
  | .unit => []
  | .one a => a.lks
  | .pair a b => a.lks ++ b.lks
  | .arr n t => (List.replicate n t.lks).flatten

def Ty.wf : (t : Ty) → t.den → Prop
  | .int k, n => (Lit.int k n).wf = true
  | .flt k, n => (Lit.float k n).wf = true
  | .bool, _ => True
  | .str, s => s.length ≤ maxLen
  | .unit, _ => True
  | .one a, x => a.wf x
  | .pair a b, x => a.wf x.1 ∧ b.wf x.2
  | .arr n t, xs => xs.length = n ∧ ∀ x ∈ xs, t.wf x

theorem Ty.lks_length : ∀ t : Ty, t.lks.length = t.size
  | .int _ => rfl
  | .flt _ => rfl
  | .bool => rfl
  | .str => rfl
  | .unit => rfl
  | .one a => a.lks_length
  | .pair a b => by simp [Ty.lks, Ty.size, a.lks_length, b.lks_length]
  | .arr n t => by simp [Ty.lks, Ty.size, t.lks_length, List.length_flatten]

theorem row_append : ∀ {a b : List LK} {l : List AV}, RowIs (a ++ b) l → ∃ x y, l = x ++ y ∧ RowIs a x ∧ RowIs b y
  | [], b, l, h => ⟨[], l, rfl, rfl, h⟩
  | k :: a, b, l, h => by
    obtain ⟨x, xs, rfl, h1, h2⟩ := h
    obtain ⟨y, z, rfl, h3, h4⟩ := row_append h2
    exact ⟨x :: y, z, rfl, ⟨x, y, rfl, h1, h3⟩, h4⟩

theorem row_n {t : Ty} (ih : ∀ l, RowIs t.lks l → ∃ x, l = t.cells x ∧ t.wf x) : ∀ (n : Nat) (l : List AV), RowIs (List.replicate n t.lks).flatten l →
    ∃ xs : List t.den, xs.length = n ∧ l = xs.flatMap t.cells ∧ ∀ x ∈ xs, t.wf x
  | 0, l, h => by
    simp only [List.replicate, List.flatten_nil, RowIs] at h
    subst h
    exact ⟨[], rfl, rfl, fun x hx => by simp at hx⟩
  | n + 1, l, h => by
    simp only [List.replicate, List.flatten_cons] at h
    obtain ⟨a, b, rfl, h1, h2⟩ := row_append h
    obtain ⟨x, rfl, hx⟩ := ih a h1
    obtain ⟨xs, h3, rfl, h4⟩ := row_n ih n b h2
    refine ⟨x :: xs, by simp [h3], rfl, fun y hy => ?_⟩
    rcases List.mem_cons.1 hy with rfl | hy
    · exact hx
    · exact h4 y hy

theorem cellsN_flat {α : Type} (f : α → List AV) (d : α) : ∀ (xs : List α), cellsN f d xs.length xs = xs.flatMap f
  | [] => rfl
  | x :: xs => by simp only [List.length_cons, cellsN, cellsN_flat f d xs, List.flatMap_cons]

theorem row_ty : ∀ (t : Ty) (l : List AV), RowIs t.lks l → ∃ x, l = t.cells x ∧ t.wf x
  | .int k, l, h => by
    obtain ⟨x, xs, rfl, ⟨n, rfl, hn⟩, h2⟩ := h
    simp only [RowIs] at h2
    subst h2
    exact ⟨n, rfl, hn⟩
  | .flt k, l, h => by
    obtain ⟨x, xs, rfl, ⟨n, rfl, hn⟩, h2⟩ := h
    simp only [RowIs] at h2
    subst h2
    exact ⟨n, rfl, hn⟩
  | .bool, l, h => by
    obtain ⟨x, xs, rfl, ⟨n, rfl⟩, h2⟩ := h
    simp only [RowIs] at h2
    subst h2
    exact ⟨n, rfl, trivial⟩
  | .str, l, h => by
    obtain ⟨x, xs, rfl, ⟨n, rfl, hn⟩, h2⟩ := h
    simp only [RowIs] at h2
    subst h2
    exact ⟨n, rfl, hn⟩
  | .unit, l, h => by
    simp only [Ty.lks, RowIs] at h
    subst h
    exact ⟨(), rfl, trivial⟩
  | .one a, l, h => row_ty a l h
  | .pair a b, l, h => by
    obtain ⟨x, y, rfl, h1, h2⟩ := row_append h
    obtain ⟨u, rfl, hu⟩ := row_ty a x h1
    obtain ⟨v, rfl, hv⟩ := row_ty b y h2
    exact ⟨(u, v), rfl, hu, hv⟩
  | .arr n t, l, h => by
    obtain ⟨xs, h1, rfl, h2⟩ := row_n (row_ty t) n l h
    refine ⟨xs, ?_, h1, h2⟩
    subst h1
    exact (cellsN_flat t.cells t.dflt xs).symm

/-! ### the arguments, one behind the other -/
theorem DRs.append {r : RM} : ∀ {l l' : List RSh} {ds ds' : List Dyn} {us us' : List AV}, DRs r l ds us → DRs r l' ds' us' → DRs r (l ++ l') (ds ++ ds') (us ++ us')
  | [], l', ds, ds', us, us', ⟨h1, h2⟩, h => by subst h1; subst h2; exact h
  | x :: l, l', ds, ds', us, us', ⟨d1, d2, u, us2, h1, h2, h3, h4⟩, h => by
    subst h1; subst h2
    exact ⟨d1, d2 ++ ds', u, us2 ++ us', by simp, rfl, h3, DRs.append h4 h⟩

structure LIn (H : Heap) (r : RM) (args : List RSh) (da : List Dyn) (us : List AV) (blks : List Ty) (db : List Dyn) : Prop where
  drs : DRs r args da us
  blk : BlksIn r H 0 (blks.map fun t => ⟨false, .many t⟩) db
  dm : ∀ k w, r k = some w → k < blks.length
  rn : H.ro ≤ H.next

theorem LIn.empty : LIn Heap.empty (fun _ => none) [] [] [] [] [] :=
  ⟨⟨rfl, rfl⟩, rfl, fun k w h => by simp at h, Nat.le_refl _⟩

theorem LIn.val {H : Heap} {r : RM} {args : List RSh} {da : List Dyn} {us : List AV} {blks : List Ty} {db : List Dyn} (h : LIn H r args da us blks db) (t : Ty) (x : t.den) :
    LIn H r (args ++ [.ty t]) (da ++ [⟨.ty t, x⟩]) (us ++ [tyAV t x]) blks db :=
  ⟨DRs.append h.drs ⟨[⟨.ty t, x⟩], [], _, [], rfl, rfl, ⟨x, rfl, rfl⟩, rfl, rfl⟩, h.blk, h.dm, h.rn⟩

theorem blks_mono {r r' : RM} {H H' : Heap} (he : Ext r r') (hg : ∀ x, x < H.next → H'.get x = H.get x) (hn : H.next ≤ H'.next) : ∀ {l : List Ty} {k : Nat} {ds : List Dyn},
    BlksIn r H k (l.map fun t => ⟨false, .many t⟩) ds → BlksIn r' H' k (l.map fun t => ⟨false, .many t⟩) ds
  | [], k, ds, h => h
  | t :: l, k, ds, h => by
    obtain ⟨d1, d2, w, h1, h2, ⟨xs, h3, h4⟩, h5, h6⟩ := h
    exact ⟨d1, d2, w, h1, he _ _ h2, ⟨xs, h3, BR.mono he (fun hv => hg _ (h5 hv).1) h4⟩, fun hv => ⟨Nat.lt_of_lt_of_le (h5 hv).1 hn, fun hf => by simp at hf⟩, blks_mono he hg hn h6⟩

theorem blks_append {r : RM} {H : Heap} {t : Ty} {d : Dyn} {w : W} (hw : DB r H w (.many t) [d]) (hv : w.virt = false → w.hb < H.next) : ∀ {l : List Ty} {k : Nat} {ds : List Dyn}, r (k + l.length) = some w →
    BlksIn r H k (l.map fun t => ⟨false, .many t⟩) ds → BlksIn r H k ((l ++ [t]).map fun t => ⟨false, .many t⟩) (ds ++ [d])
  | [], k, ds, hr, h => by
    simp only [List.map_nil, BlksIn] at h
    subst h
    exact ⟨[d], [], w, rfl, hr, hw, fun h => ⟨hv h, fun hf => by simp at hf⟩, rfl⟩
  | s :: l, k, ds, hr, h => by
    obtain ⟨d1, d2, w', h1, h2, h3, h5, h6⟩ := h
    refine ⟨d1, d2 ++ [d], w', by rw [h1, List.append_assoc], h2, h3, h5, blks_append hw hv ?_ h6⟩
    rw [← hr]; simp only [List.length_cons]; congr 1; omega

theorem VR.drs_mono {r r' : RM} (he : Ext r r') {l : List RSh} {ds : List Dyn} {us : List AV} (h : DRs r l ds us) : DRs r' l ds us :=
  DRs.on (fun k _ w hk => he k w hk) h

theorem LIn.sl {H : Heap} {r : RM} {args : List RSh} {da : List Dyn} {us : List AV} {blks : List Ty} {db : List Dyn} (h : LIn H r args da us blks db) {t : Ty} (ht : 0 < t.size) {v : AV} {H' : Heap} {xs : List AV} {len : Nat}
    (hs : SlIn t.lks H v H' xs len) : ∃ r' ys, ys.length = len ∧ (∀ x ∈ ys, t.wf x) ∧ LIn H' r' (args ++ [.sla blks.length .any]) da (us ++ [v]) (blks ++ [t]) (db ++ [⟨.lst t, ys⟩]) := by
  have hnone : r blks.length = none := by
    cases hr : r blks.length with
    | none => rfl
    | some w => exact absurd (h.dm _ _ hr) (Nat.lt_irrefl _)
  have hext : ∀ w, Ext r (upd r blks.length w) := by
    intro w k w' hk
    unfold upd
    split
    · rename_i he; subst he; rw [hnone] at hk; simp at hk
    · exact hk
  have hdm : ∀ w, ∀ k w', upd r blks.length w k = some w' → k < (blks ++ [t]).length := by
    intro w k w' hk
    unfold upd at hk
    simp only [List.length_append, List.length_singleton]
    split at hk
    · omega
    · have := h.dm _ _ hk; omega
  have hself : ∀ w, upd r blks.length w blks.length = some w := fun w => by unfold upd; simp
  rcases hs with ⟨rfl, rfl, rfl, rfl⟩ | ⟨rfl, rfl, hrow⟩
  · refine ⟨upd r blks.length ⟨true, 0, 0, 0, t.size⟩, [], rfl, fun x hx => by simp at hx, ?_, ?_, hdm _, h.rn⟩
    · have := DRs.append (VR.drs_mono (hext ⟨true, 0, 0, 0, t.size⟩) h.drs) (l' := [.sla blks.length .any]) (ds' := []) (us' := [.nilsl]) ⟨[], [], _, [], rfl, rfl, ⟨rfl, ⟨true, 0, 0, 0, t.size⟩, hself _, .inl ⟨rfl, rfl, rfl⟩⟩, rfl, rfl⟩
      simpa using this
    · refine blks_append (w := ⟨true, 0, 0, 0, t.size⟩) ⟨[], rfl, rfl, rfl, ht, .inl ⟨rfl, rfl⟩⟩ (fun hv => by simp at hv) (by rw [Nat.zero_add]; exact hself _) (blks_mono (hext _) (fun _ _ => rfl) (Nat.le_refl _) h.blk)
  · obtain ⟨ys, h1, rfl, h2⟩ := row_n (row_ty t) len xs hrow
    have hget : ∀ x, x < H.next → (H.pushRo (ys.flatMap t.cells)).get x = H.get x := by
      intro x hx
      show (H.tr.set (H.next + 1) H.next _).get x = _
      rw [Tr.get_set _ _ _ _ _ (by omega), if_neg (by omega)]
      rfl
    have hnew : (H.pushRo (ys.flatMap t.cells)).get H.next = some (ys.flatMap t.cells) := by
      show (H.tr.set (H.next + 1) H.next _).get H.next = _
      rw [Tr.get_set _ _ _ _ _ (by omega), if_pos rfl]
    refine ⟨upd r blks.length ⟨false, H.next, 0, len, t.size⟩, ys, h1, h2, ?_, ?_, hdm _, Nat.le_refl _⟩
    · have := DRs.append (VR.drs_mono (hext ⟨false, H.next, 0, len, t.size⟩) h.drs) (l' := [.sla blks.length .any]) (ds' := []) (us' := [.sl H.next 0 len none t.lks.length]) ⟨[], [], _, [], rfl, rfl, ⟨rfl, ⟨false, H.next, 0, len, t.size⟩, hself _, .inr ⟨rfl, none, trivial, by rw [Ty.lks_length]⟩⟩, rfl, rfl⟩
      simpa using this
    · exact blks_append (w := ⟨false, H.next, 0, len, t.size⟩) ⟨ys, rfl, h1.symm, rfl, ht, .inr ⟨rfl, [], [], by simpa using hnew, rfl⟩⟩ (fun _ => Nat.lt_succ_self _) (by rw [Nat.zero_add]; exact hself _) (blks_mono (hext _) hget (Nat.le_succ _) h.blk)

/-- the evaluator says what the contract's function says -/
theorem law_ev {T : Tab} {f : Nat} {c : Ctr} (hg : GoodC T f c) {args : List RSh} {blks : List Ty}
    (hc : c.sg = ⟨args, blks.map fun t => ⟨false, .many t⟩, ⟨[(0, .ty .bool)], [], [], []⟩⟩) {N : Nat} {x : c.sg.inp} {y : c.sg.res} (hy : c.fn N x = some y) {H : Heap} {us : List AV} {da db : List Dyn} {r : RM} (hin : LIn H r args da us blks db)
    (hx : ofHL _ x = da ++ db) (hb : ofHL _ y = [⟨.ty .bool, true⟩]) : ∃ n H', evF T n f us H = some (.bool true, H') := by
  obtain ⟨n0, u, H', q, h1, h2⟩ := hg N x y hy r H us ⟨⟨da, db, hx, by rw [hc]; exact hin.drs, by rw [hc]; exact hin.blk⟩, fun k w hk => by rw [hc]; simpa using hin.dm k w hk, fun i j bi bj wi wj _ hi hj ho => by
    rw [hc] at hi hj
    simp only [List.getElem?_map] at hi hj
    obtain ⟨a, _, ha⟩ := Option.map_eq_some_iff.1 hi
    obtain ⟨b, _, hb⟩ := Option.map_eq_some_iff.1 hj
    subst ha; subst hb
    simp at ho, hin.rn⟩
  obtain ⟨⟨d1, d2, d3, h3, h4, h5, h6⟩, -, -, -, -, -, -⟩ := h2
  rw [hc] at h4 h5 h6
  simp only [OldsOut, NewsOut] at h5 h6
  subst h5; subst h6
  obtain ⟨e1, e2, u', us', h7, h8, ⟨z, h9, h10⟩, h11, h12⟩ := h4
  subst h11; subst h9; subst h12
  rw [hb, h7] at h3
  simp only [List.append_nil, List.cons.injEq, and_true, Dyn.mk.injEq, heq_eq_eq, true_and] at h3
  simp only [List.cons.injEq, and_true] at h8
  subst h8; subst h10
  refine ⟨n0, H', ?_⟩
  rw [h1 n0 (Nat.le_refl _), ← h3]
  rfl
theorem law_ev2 {T : Tab} {f : Nat} {sg : Sg} {fn : Nat → sg.inp → Option sg.res} (hg : GoodC T f ⟨sg, fn⟩) {args : List RSh} {blks : List Ty}
    (hc : sg = ⟨args, blks.map fun t => ⟨false, .many t⟩, ⟨[(0, .ty .bool)], [], [], []⟩⟩) {N : Nat} {x : sg.inp} {y : sg.res} (hy : fn N x = some y) {H : Heap} {us : List AV} {da db : List Dyn} {r : RM} (hin : LIn H r args da us (blks) db)
    (hx : ofHL _ x = da ++ db) (hb : ofHL _ y = [⟨.ty .bool, true⟩]) : ∃ n H', evF T n f us H = some (.bool true, H') := law_ev hg hc hy hin hx hb

/-- a row of nothings -/
def zero1 : LK → Value
  | .bool => .bool false
  | .int k => .int k 0
  | .float k => .float k 0
  | .str => .string ⟨#[]⟩
def zeroOf (l : List LK) : List Value := l.map zero1
end Go.Sh
