/- Operations of the shallow reading are the evaluator's: parts of slices, copies, equality, what is built. No condition. -/
import Derived.Test.YtipdancojcdioaaShH
namespace Go.Sh
set_option linter.unusedVariables false
set_option linter.unusedSimpArgs false
open Go Go.Ev

section
variable {ρ : Type} {P : Fr} {r : RM} {s : St} {e : Env} {H : Heap}

theorem bound_sound (h : Rel P r s e H) {d : Nat} {x : Option Opd} {c : Bool × Nat} (hb : boundS s d x = some c) (hc : c.1 = true) : bound e d x = some c.2 := by
  unfold boundS at hb
  split at hb
  · obtain rfl := Option.some.inj hb
    rfl
  · split at hb
    · rename_i x k n hx
      obtain rfl := Option.some.inj hb
      obtain ⟨u, h1, h2⟩ := opd_sound h hx
      simp only [VR, tyAV] at h2
      subst h2
      simp only [bound, h1, natOf]
      simp only at hc
      rw [hc, cond_true]
    · simp at hb

theorem slice_case {w : W} {b o len l hh m : Nat} {c : Cp} {cap : Option Nat} (hw : r b = some w) (hv : w.virt = false) (hle : o + len ≤ w.len) (hcp : CpR len c cap) (hpos : 0 < w.size) (h1 : l ≤ hh) (h2 : hh ≤ len) (hi : Bool) (hhi : hi = false → hh = len) :
    sliceOf w.size w.hb (w.base + o * w.size) len cap w.size l hh none = some (.sl w.hb (w.base + o * w.size + l * w.size) (hh - l) (capAfter cap none l) w.size) ∧
      VR r (.slw b (o + l) (hh - l) (capS c hi l)) (.sl w.hb (w.base + o * w.size + l * w.size) (hh - l) (capAfter cap none l) w.size) := by
  constructor
  · unfold sliceOf
    rw [decide_eq_true h1, decide_eq_true h2, decide_eq_true hpos, Nat.beq_refl]
    rfl
  · refine ⟨w, hw, by omega, .inr ⟨hv, capAfter cap none l, ?_, ?_⟩⟩
    · cases c with
      | non => simp only [CpR] at hcp; subst hcp; rfl
      | kn m => simp only [CpR] at hcp; subst hcp; rfl
      | tail =>
        cases hi with
        | true => trivial
        | false =>
          have := hhi rfl
          subst this
          rcases hcp with rfl | rfl
          · exact .inl rfl
          · exact .inr rfl
      | any => trivial
    · rw [Nat.add_mul, Nat.add_assoc]

theorem slice_case3 {w : W} {b o len l hh m : Nat} {cap : Option Nat} (hw : r b = some w) (hv : w.virt = false) (hle : o + len ≤ w.len) (hpos : 0 < w.size) (h1 : l ≤ hh) (h2 : hh ≤ m) (h3 : m ≤ len) :
    sliceOf w.size w.hb (w.base + o * w.size) len cap w.size l hh (some m) = some (.sl w.hb (w.base + o * w.size + l * w.size) (hh - l) (some (m - l)) w.size) ∧
      VR r (.slw b (o + l) (hh - l) (.kn (m - l))) (.sl w.hb (w.base + o * w.size + l * w.size) (hh - l) (some (m - l)) w.size) := by
  constructor
  · unfold sliceOf
    rw [decide_eq_true h1, decide_eq_true (Nat.le_trans h2 h3), decide_eq_true hpos, Nat.beq_refl]
    simp only [decide_eq_true h2, decide_eq_true h3]
    rfl
  · refine ⟨w, hw, by omega, .inr ⟨hv, _, rfl, ?_⟩⟩
    rw [Nat.add_mul, Nat.add_assoc]

/-- a window's part -/
theorem sliceWS_sound (h : Rel P r s e H) {w : W} {b o len : Nat} {c : Cp} {a : AV} {lo hi mx : Option Opd} {κ : SV → Option ρ} {y : ρ} (hw : r b = some w) (hle : o + len ≤ w.len) (hpos : 0 < w.size)
    (ha : (w.virt = true ∧ a = .nilsl ∧ len = 0) ∨ (w.virt = false ∧ ∃ cap, CpR len c cap ∧ a = .sl w.hb (w.base + o * w.size) len cap w.size))
    {x : Opd} (hx : x.get e = some a) (hk : sliceWS s b o len c lo hi mx κ = some y) :
    ∃ u v, (∀ callF, (AOp.sliceS w.size x lo hi mx).run callF e H = some (u, H)) ∧ VR r v u ∧ κ v = some y := by
  unfold sliceWS at hk
  obtain ⟨l, hl, hk1⟩ := orNone_some hk
  obtain ⟨hh, hhh, hk2⟩ := orNone_some hk1
  clear hk hk1
  split at hk2
  · obtain ⟨hc, hk3⟩ := chk_some hk2
    clear hk2
    simp only [Bool.and_eq_true, Nat.ble_eq] at hc
    obtain ⟨⟨⟨c1, c2⟩, c3⟩, c4⟩ := hc
    have b1 := bound_sound h hl c1
    have b2 := bound_sound h hhh c2
    rcases ha with ⟨hv, rfl, rfl⟩ | ⟨hv, cap, hcp, rfl⟩
    · have e1 : l.2 = 0 := by omega
      have e2 : hh.2 = 0 := by omega
      have g : VR r (.slw b (o + l.2) (hh.2 - l.2) (capS c hi.isSome l.2)) .nilsl := ⟨w, hw, by omega, .inl ⟨hv, rfl⟩⟩
      exact ⟨.nilsl, _, fun callF => by simp only [AOp.run, hx, on1, b1, b2, e1, e2], g, hk3⟩
    · have hhi : hi.isSome = false → hh.2 = len := by
        intro hn
        cases hi with
        | some x => simp at hn
        | none =>
          simp only [boundS, Option.some.injEq] at hhh
          rw [← hhh]
      obtain ⟨g1, g2⟩ := slice_case (m := 0) hw hv hle hcp hpos c3 c4 hi.isSome hhi
      exact ⟨_, _, fun callF => by simp only [AOp.run, hx, on1, b1, b2, g1, pureR], g2, hk3⟩
  · rename_i mo
    obtain ⟨m, hm, hk3⟩ := orNone_some hk2
    obtain ⟨hc, hk4⟩ := chk_some hk3
    clear hk2 hk3
    simp only [Bool.and_eq_true, Nat.ble_eq] at hc
    obtain ⟨⟨⟨⟨⟨c1, c2⟩, c3⟩, c4⟩, c5⟩, c6⟩ := hc
    have b1 := bound_sound h hl c1
    have b2 := bound_sound h hhh c2
    have b3 := bound_sound h hm c3
    rcases ha with ⟨hv, rfl, rfl⟩ | ⟨hv, cap, hcp, rfl⟩
    · have e1 : l.2 = 0 := by omega
      have e2 : hh.2 = 0 := by omega
      have e3 : m.2 = 0 := by omega
      have g : VR r (.slw b (o + l.2) (hh.2 - l.2) (.kn (m.2 - l.2))) .nilsl := ⟨w, hw, by omega, .inl ⟨hv, rfl⟩⟩
      exact ⟨.nilsl, _, fun callF => by simp only [AOp.run, hx, on1, b1, b2, b3, e1, e2, e3], g, hk4⟩
    · obtain ⟨g1, g2⟩ := slice_case3 (cap := cap) hw hv hle hpos c4 c5 c6
      exact ⟨_, _, fun callF => by simp only [AOp.run, hx, on1, b1, b2, b3, g1, pureR], g2, hk4⟩

theorem sliceS_sound (h : Rel P r s e H) {v : SV} {a : AV} {size : Nat} {lo hi mx : Option Opd} {κ : SV → Option ρ} {y : ρ} {x : Opd} (hx : x.get e = some a) (hv : VR r v a) (hk : sliceS s size v lo hi mx κ = some y) :
    ∃ u v, (∀ callF, (AOp.sliceS size x lo hi mx).run callF e H = some (u, H)) ∧ VR r v u ∧ κ v = some y := by
  unfold sliceS at hk
  split at hk
  · rename_i b ex
    split at hk
    · rename_i t xs hblk
      obtain ⟨hb, hk1⟩ := bif_some' hk
      simp only [Bool.and_eq_true, Nat.beq_eq, blt_iff] at hb
      obtain ⟨hsz, hpos⟩ := hb
      obtain ⟨w, hw, hcase⟩ := hv
      obtain ⟨g1, g2, g3, g4⟩ := many_block h hblk hw
      have hsz2 : size = w.size := by rw [g2, hsz]
      subst hsz2
      refine sliceWS_sound h hw (by omega) (by omega) ?_ hx hk1
      rcases hcase with ⟨q1, rfl, q2⟩ | ⟨q1, c, q2, rfl⟩
      · exact .inl ⟨q1, rfl, by omega⟩
      · refine .inr ⟨q1, c, by rw [← g1]; exact q2, by rw [Nat.zero_mul, Nat.add_zero, g1]⟩
    · simp at hk
  · rename_i b o l c
    split at hk
    · rename_i t xs hblk
      obtain ⟨hb, hk1⟩ := bif_some' hk
      simp only [Bool.and_eq_true, Nat.beq_eq, blt_iff] at hb
      obtain ⟨hsz, hpos⟩ := hb
      obtain ⟨w, hw, hle, hcase⟩ := hv
      obtain ⟨g1, g2, g3, g4⟩ := many_block h hblk hw
      have hsz2 : size = w.size := by rw [g2, hsz]
      subst hsz2
      refine sliceWS_sound h hw hle (by omega) ?_ hx hk1
      rcases hcase with ⟨q1, rfl⟩ | ⟨q1, c, q2, rfl⟩
      · refine .inl ⟨q1, rfl, ?_⟩
        rcases g4 with ⟨_, rfl⟩ | ⟨hf, _⟩
        · simp at g1; omega
        · rw [q1] at hf; simp at hf
      · exact .inr ⟨q1, c, q2, rfl⟩
    · simp at hk
  · simp only [VR] at hv
    subst hv
    split at hk
    · obtain ⟨l, hl, hk1⟩ := orNone_some hk
      obtain ⟨hh, hhh, hk2⟩ := orNone_some hk1
      obtain ⟨hc, hk3⟩ := chk_some hk2
      simp only [Bool.and_eq_true, Nat.beq_eq] at hc
      obtain ⟨⟨⟨c1, c2⟩, c3⟩, c4⟩ := hc
      have b1 := bound_sound h hl c1
      have b2 := bound_sound h hhh c2
      exact ⟨.nilsl, .nils, fun callF => by simp only [AOp.run, hx, on1, b1, b2, c3, c4], rfl, hk3⟩
    · simp at hk
  · simp at hk

theorem sliceStrS_sound (h : Rel P r s e H) {v : SV} {a : AV} {lo hi : Option Opd} {κ : SV → Option ρ} {y : ρ} {x : Opd} (hx : x.get e = some a) (hv : VR r v a) (hk : sliceStrS s v lo hi κ = some y) :
    ∃ u v, (∀ callF, (AOp.sliceStr x lo hi).run callF e H = some (u, H)) ∧ VR r v u ∧ κ v = some y := by
  unfold sliceStrS at hk
  split at hk
  · simp only [VR, tyAV] at hv
    subst hv
    obtain ⟨l, hl, hk1⟩ := orNone_some hk
    obtain ⟨hh, hhh, hk2⟩ := orNone_some hk1
    obtain ⟨hc, hk3⟩ := chk_some hk2
    simp only [Bool.and_eq_true, Nat.ble_eq] at hc
    obtain ⟨⟨⟨c1, c2⟩, c3⟩, c4⟩ := hc
    have b1 := bound_sound h hl c1
    have b2 := bound_sound h hhh c2
    refine ⟨_, .ty .str _, fun callF => ?_, rfl, hk3⟩
    simp only [AOp.run, hx, on1, b1, b2, decide_eq_true c3, decide_eq_true c4, Bool.and_self, cond_true, tyAV]
  · simp at hk

/-! ### copy -/
theorem Rel.same (h : Rel P r s e H) {b : Nat} {k k' : Blk} {w : W} (hk : s.heap.get b = some k) (hw : r b = some w) (ho : k'.own = k.own) (hb : BR r H w k'.c) : Rel P r (s.setB b (some k')) e H := by
  have hold : ∀ m q, (s.setB b (some k')).heap.get m = some q → ∃ q', s.heap.get m = some q' ∧ q'.own = q.own ∧ (m ≠ b → q' = q) := fun m q hq => by
    simp only [heap_setB] at hq
    split at hq
    · rename_i hm
      subst hm
      obtain rfl := Option.some.inj hq
      exact ⟨k, hk, ho.symm, fun h => absurd rfl h⟩
    · exact ⟨q, hq, rfl, fun _ => rfl⟩
  refine ⟨h.er, fun m q hq => ?_, h.dm, fun m m' q q' w1 w2 hn h1 h2 hown => ?_, h.nx, h.ro, h.fr, h.st, h.rn, ?_⟩
  · by_cases hm : m = b
    · subst hm
      simp only [heap_setB, if_true, Option.some.injEq] at hq
      subst hq
      obtain ⟨w', a1, a2, a3, a4⟩ := h.br m k hk
      rw [hw] at a1
      obtain rfl := Option.some.inj a1
      exact ⟨w, hw, hb, a3, fun hv => ⟨(a4 hv).1, fun hx => (a4 hv).2 (ho ▸ hx)⟩⟩
    · simp only [heap_setB, if_neg hm] at hq
      exact h.br m q hq
  · obtain ⟨p1, a1, a2, _⟩ := hold m q h1
    obtain ⟨p2, b1, b2, _⟩ := hold m' q' h2
    exact h.ap m m' p1 p2 w1 w2 hn a1 b1 (by rw [a2, b2]; exact hown)
  · obtain ⟨l, h1, h2, h3⟩ := h.lg
    refine ⟨l, h1, h2, fun m q w' hq hw' hv hlt hnl => ?_⟩
    obtain ⟨p1, a1, _, _⟩ := hold m q hq
    simp only [log_setB, List.mem_cons, not_or] at hnl
    exact h3 m p1 w' a1 hw' hv hlt hnl.2

theorem flatMap_take {t : Ty} : ∀ (xs : List t.den) (k : Nat), (xs.flatMap t.cells).take (k * t.size) = (xs.take k).flatMap t.cells
  | [], k => by simp
  | x :: xs, 0 => by simp
  | x :: xs, k + 1 => by
    rw [List.flatMap_cons, List.take_succ_cons, List.flatMap_cons, Nat.succ_mul, Nat.add_comm, ← cells_length t x, List.take_length_add_append, cells_length, flatMap_take xs k]

theorem flatMap_drop {t : Ty} : ∀ (xs : List t.den) (k : Nat), (xs.flatMap t.cells).drop (k * t.size) = (xs.drop k).flatMap t.cells
  | [], k => by simp
  | x :: xs, 0 => by simp
  | x :: xs, k + 1 => by
    rw [List.flatMap_cons, List.drop_succ_cons, Nat.succ_mul, Nat.add_comm, ← cells_length t x, List.drop_length_add_append, cells_length, flatMap_drop xs k]

theorem copy_case (h : Rel P r s e H) {b o l : Nat} {t : Ty} {xs zs : List t.den} {w : W} {a : AV} {c : Option Nat} (hblk : s.heap.get b = some ⟨true, .many t xs⟩) (hw : r b = some w) (hv : w.virt = false) (hle : o + l ≤ xs.length)
    (ha : a = .sl w.hb (w.base + o * w.size) l c w.size) :
    ∃ H', storeAt H w.hb (w.base + o * w.size) ((zs.flatMap t.cells).take (min zs.length l * t.size)) = some H' ∧
      Rel P r (s.setB b (some ⟨true, .many t (xs.take o ++ (zs.take (min zs.length l) ++ xs.drop (o + min zs.length l)))⟩)) e H' := by
  obtain ⟨g1, g2, g3, g4⟩ := many_block h hblk hw
  rcases g4 with ⟨g4, _⟩ | ⟨g4, ⟨pre, post, g5, g6⟩, g7, g8⟩
  · rw [hv] at g4; simp at g4
  generalize hk : min zs.length l = k
  have hkl : k ≤ l := by omega
  have hkz : k ≤ zs.length := by omega
  have hlen : ((zs.flatMap t.cells).take (k * t.size)).length = k * t.size := by
    rw [flatMap_take, flatMap_length, List.length_take, Nat.min_eq_left hkz]
  have hone : ((zs.flatMap t.cells).take (k * t.size)).all AV.one = true := by rw [flatMap_take]; exact flatMap_one _ _
  have hst := storeAt_win g5 (g8 rfl) hone hlen (a := o * t.size) (by
    have := window_le (t := t) (xs := xs) (o := o) (l := k) (by omega)
    exact this)
  rw [g6] at hst
  rw [g2]
  refine ⟨_, hst, ?_⟩
  refine h.write hblk rfl hw hv (fun k' hk' => ?_)
  obtain rfl := Option.some.inj hk'
  refine ⟨rfl, ?_, g2, g3, .inr ⟨hv, pre, post, ?_, g6⟩⟩
  · rw [g1]
    simp only [List.length_append, List.length_take, List.length_drop]
    omega
  · simp only [Heap.get_setTo, if_true]
    rw [List.flatMap_append, List.flatMap_append, ← Nat.add_mul, flatMap_take, flatMap_take, flatMap_drop]

theorem copyS_sound (h : Rel P r s e H) {x y : SV} {a b : AV} {size : Nat} {κ : SV → St → Option ρ} {z : ρ} {p q : Opd} (hp : p.get e = some a) (hq : q.get e = some b) (ha : VR r x a) (hb : VR r y b) (hk : copyS s size x y κ = some z) :
    OpOk P r s e H (.copy size p q) κ z := by
  unfold copyS at hk
  obtain ⟨ys, hys, hk1⟩ := orNone_some hk
  obtain ⟨hsz, hk2⟩ := bif_some' hk1
  clear hk hk1
  simp only [Bool.and_eq_true, Nat.beq_eq, blt_iff] at hsz
  obtain ⟨hsz, hpos⟩ := hsz
  subst hsz
  obtain ⟨hcells, hlen⟩ := sliceC_sound h hb hys
  unfold copyC at hk2
  split at hk2
  · rename_i b0 ex
    split at hk2
    · rename_i t xs hblk
      obtain ⟨zs, hzs, hk3⟩ := orNone_some hk2
      obtain ⟨ht, hflat, hzl⟩ := castL_eq hzs
      rw [← hflat, ht] at hcells
      rw [← hzl] at hlen
      obtain ⟨w, hw, hcase⟩ := ha
      obtain ⟨g1, g2, g3, g4⟩ := many_block h hblk hw
      rcases hcase with ⟨q1, rfl, q2⟩ | ⟨q1, c, q2, rfl⟩
      · have hx : xs = [] := isNil_of_len (by omega)
        subst hx
        refine ⟨.int .i64 0, H, .ty (.int .i64) ((min zs.length ([] : List t.den).length : Nat) : Int), _, r, fun callF => ?_, ?_, by simp [VR, tyAV], Ext.refl r, Kp.setB s b0 _, rfl, hk3⟩
        · simp only [AOp.run, opt2, hp, hq, lenOf]
          simp only [lenOf] at hlen
          rw [hlen, ht, hcells]
        · refine h.same hblk hw rfl ?_
          simp only [List.length_nil, Nat.min_zero, List.take_zero, List.drop_nil, List.append_nil]
          obtain ⟨w', e1, e2, _⟩ := h.br b0 _ hblk
          rw [hw] at e1
          obtain rfl := Option.some.inj e1
          exact e2
      · obtain ⟨H', e1, e2⟩ := copy_case h (o := 0) (l := xs.length) (zs := zs) (c := c) hblk hw q1 (by omega) (a := .sl w.hb w.base w.len c w.size) (by rw [Nat.zero_mul, Nat.add_zero, g1])
        simp only [List.take_zero, List.nil_append, Nat.zero_add] at e2
        refine ⟨.int .i64 ((min zs.length xs.length : Nat) : Int), H', .ty (.int .i64) ((min zs.length xs.length : Nat) : Int), _, r, fun callF => ?_, e2, rfl, Ext.refl r, Kp.setB s b0 _, rfl, hk3⟩
        simp only [AOp.run, opt2, hp, hq]
        rw [hlen, ht, hcells]
        simp only [lenOf, g1]
        rw [Nat.zero_mul, Nat.add_zero] at e1
        rw [e1]
    · simp at hk2
  · rename_i b0 o l c
    split at hk2
    · rename_i t xs hblk
      obtain ⟨zs, hzs, hk3⟩ := orNone_some hk2
      obtain ⟨ht, hflat, hzl⟩ := castL_eq hzs
      rw [← hflat, ht] at hcells
      rw [← hzl] at hlen
      obtain ⟨w, hw, hle, hcase⟩ := ha
      obtain ⟨g1, g2, g3, g4⟩ := many_block h hblk hw
      rw [g1] at hle
      rcases hcase with ⟨q1, rfl⟩ | ⟨q1, c, q2, rfl⟩
      · rcases g4 with ⟨_, rfl⟩ | ⟨hf, _⟩
        · have hl : l = 0 := by simp at hle; omega
          have ho : o = 0 := by simp at hle; omega
          subst hl ho
          refine ⟨.int .i64 0, H, .ty (.int .i64) ((min zs.length 0 : Nat) : Int), _, r, fun callF => ?_, ?_, by simp [VR, tyAV], Ext.refl r, Kp.setB s b0 _, rfl, hk3⟩
          · simp only [AOp.run, opt2, hp, hq, lenOf]
            simp only [lenOf] at hlen
            rw [hlen, ht, hcells]
          · refine h.same hblk hw rfl ?_
            simp only [Nat.min_zero, List.take_zero, List.drop_nil, List.append_nil]
            obtain ⟨w', e1, e2, _⟩ := h.br b0 _ hblk
            rw [hw] at e1
            obtain rfl := Option.some.inj e1
            exact e2
        · rw [q1] at hf; simp at hf
      · obtain ⟨H', e1, e2⟩ := copy_case h (zs := zs) (c := c) hblk hw q1 hle rfl
        refine ⟨.int .i64 ((min zs.length l : Nat) : Int), H', .ty (.int .i64) ((min zs.length l : Nat) : Int), _, r, fun callF => ?_, e2, rfl, Ext.refl r, Kp.setB s b0 _, rfl, hk3⟩
        simp only [AOp.run, opt2, hp, hq]
        rw [hlen, ht, hcells]
        simp only [lenOf]
        rw [e1]
    · simp at hk2
  · simp at hk2

end
end Go.Sh
