/- What came in, brought into the evaluator's heap. -/
import Derived.Test.YtipdancojcdioaaEvP
import Derived.WalkKit
import Derived.ProofKit
import Derived.OpenShut
import Derived.ShutString
import Derived.ChangeOld
import Derived.SizedLaws
namespace Go.Ev
set_option linter.unusedVariables false
set_option linter.unusedSimpArgs false
open Go

inductive LK where
  | bool
  | int (k : IntKind)
  | float (k : FloatKind)
  | str

def leafFs (P : Program) (go : TypeId → Option (List LK)) : List Field → Nat → Option (List LK)
  | [], _ => some []
  | f :: fs, n => if f.offset = n then (match go f.type with
      | some ks => if P.cellsOf f.type = ks.length then (match leafFs P go fs (n + ks.length) with
        | some rest => some (ks ++ rest)
        | none => none) else none
      | none => none) else none

/-- the leaves of a type without pointers, one behind the other -/
def leaves (P : Program) : Nat → TypeId → Option (List LK)
  | 0, _ => none
  | d + 1, t => match P.underlying t with
    | some .bool => some [.bool]
    | some (.int k) => some [.int k]
    | some (.float k) => some [.float k]
    | some .string => some [.str]
    | some (.struct fs) => match leafFs P (leaves P d) fs.toList 0 with
      | some ks => if P.cellsOf t = ks.length then some ks else none
      | none => none
    | some (.array n e) => match leaves P d e with
      | some ks => if P.cellsOf e = ks.length ∧ P.cellsOf t = n * ks.length then some (List.replicate n ks).flatten else none
      | none => none
    | _ => none

def cellIs : LK → AV → Prop
  | .bool, v => ∃ b, v = .bool b
  | .int k, v => ∃ n, v = .int k n ∧ (Lit.int k n).wf = true
  | .float k, v => ∃ n, v = .float k n ∧ (Lit.float k n).wf = true
  | .str, v => ∃ s, v = .str s ∧ s.length ≤ maxLen

def RowIs : List LK → List AV → Prop
  | [], l => l = []
  | k :: ks, l => ∃ x xs, l = x :: xs ∧ cellIs k x ∧ RowIs ks xs

theorem RowIs.append {a b : List LK} {x y : List AV} (h : RowIs a x) (k : RowIs b y) : RowIs (a ++ b) (x ++ y) := by
  induction a generalizing x with
  | nil => simp only [RowIs] at h; subst h; exact k
  | cons c cs ih => obtain ⟨v, vs, rfl, h1, h2⟩ := h; exact ⟨v, vs ++ y, rfl, h1, ih h2⟩

theorem RowIs.length {ks : List LK} {x : List AV} (h : RowIs ks x) : x.length = ks.length := by
  induction ks generalizing x with
  | nil => simp only [RowIs] at h; subst h; rfl
  | cons c cs ih => obtain ⟨v, vs, rfl, _, h2⟩ := h; simp [ih h2]

theorem RowIs.one {ks : List LK} {x : List AV} (h : RowIs ks x) : x.all AV.one = true ∧ x.all AV.scalar = true := by
  induction ks generalizing x with
  | nil => simp only [RowIs] at h; subst h; exact ⟨rfl, rfl⟩
  | cons c cs ih =>
    obtain ⟨v, vs, rfl, h1, h2⟩ := h
    obtain ⟨a, b⟩ := ih h2
    cases c <;> simp only [cellIs] at h1
    · obtain ⟨_, rfl⟩ := h1; simp [AV.one, AV.scalar, a, b]
    · obtain ⟨_, rfl, _⟩ := h1; simp [AV.one, AV.scalar, a, b]
    · obtain ⟨_, rfl, _⟩ := h1; simp [AV.one, AV.scalar, a, b]
    · obtain ⟨_, rfl, _⟩ := h1; simp [AV.one, AV.scalar, a, b]

theorem mapM_all {α β : Type} {f : α → Option β} : ∀ {l : List α} {r : List β}, l.mapM f = some r → ∀ x ∈ l, ∃ y, f x = some y
  | [], _, _, x, hx => by simp at hx
  | a :: l, r, h, x, hx => by
    rw [List.mapM_cons] at h
    simp only [bind, Option.bind_eq_some_iff] at h
    obtain ⟨y, hy, ys, hys, _⟩ := h
    rcases List.mem_cons.1 hx with rfl | hx
    · exact ⟨y, hy⟩
    · exact mapM_all hys x hx


section
variable {H : Type} {enc : TypeId × Value → H} {P : Program} {w : World} {base : Nat} {spare : Nat → Bool} {held : Bool}

/-- what is read of a type without pointers -/
def CellsOk (P : Program) (w : World) (base : Nat) (spare : Nat → Bool) (held : Bool) (enc : TypeId × Value → H) (t : TypeId) (ks : List LK) : Prop :=
  ∀ (fuel : Nat) (cs : List Value) (x : DataW H × List MemPlace), DataW.trod enc P w base spare held fuel t cs = some x → ∃ xs, (∀ j, VRs j xs cs) ∧ RowIs ks xs

theorem mapM_cons_some {α β : Type} {f : α → Option β} {a : α} {l : List α} {r : List β} (h : (a :: l).mapM f = some r) : ∃ y ys, f a = some y ∧ l.mapM f = some ys := by
  rw [List.mapM_cons] at h
  simp only [bind, Option.bind_eq_some_iff] at h
  obtain ⟨y, hy, ys, hys, _⟩ := h
  exact ⟨y, ys, hy, hys⟩

theorem imp_fields {go : TypeId → Option (List LK)} (hgo : ∀ t ks, go t = some ks → CellsOk P w base spare held enc t ks) {fuel : Nat} {cs : List Value} :
    ∀ (fs : List Field) (n : Nat) (ks : List LK), leafFs P go fs n = some ks → ∀ {r : List (DataW H × List MemPlace)}, (fs.mapM fun f => DataW.trod enc P w base spare held fuel f.type ((cs.drop f.offset).take (P.cellsOf f.type))) = some r →
    ∃ xs, (∀ j, VRs j xs ((cs.drop n).take ks.length)) ∧ RowIs ks xs
  | [], n, ks, h, r, hm => by
    simp only [leafFs, Option.some.injEq] at h
    subst h
    exact ⟨[], fun j => by simp [VRs], rfl⟩
  | f :: fs, n, ks, h, r, hm => by
    simp only [leafFs] at h
    split at h <;> (try simp at h; done)
    rename_i ho
    split at h <;> (try simp at h; done)
    rename_i k1 hk1
    split at h <;> (try simp at h; done)
    rename_i hc
    split at h <;> (try simp at h; done)
    rename_i rest hr
    obtain rfl := Option.some.inj h
    obtain ⟨y, ys, hy, hys⟩ := mapM_cons_some hm
    obtain ⟨a, ha, ha2⟩ := hgo _ _ hk1 _ _ _ hy
    obtain ⟨b, hb, hb2⟩ := imp_fields hgo fs _ _ hr hys
    refine ⟨a ++ b, fun j => ?_, ha2.append hb2⟩
    rw [List.length_append, List.take_add, List.drop_drop]
    subst ho
    rw [hc] at ha
    exact (ha j).append (hb j)

theorem imp_elems {e : TypeId} {ks : List LK} (hgo : CellsOk P w base spare held enc e ks) (hc : P.cellsOf e = ks.length) {fuel : Nat} {cs : List Value} :
    ∀ (m s : Nat) {r : List (DataW H × List MemPlace)}, ((List.range' s m).mapM fun i => DataW.trod enc P w base spare held fuel e ((cs.drop (i * P.cellsOf e)).take (P.cellsOf e))) = some r →
    ∃ xs, (∀ j, VRs j xs ((cs.drop (s * ks.length)).take (m * ks.length))) ∧ RowIs (List.replicate m ks).flatten xs
  | 0, s, r, hm => ⟨[], fun j => by simp [VRs], by simp [RowIs]⟩
  | m + 1, s, r, hm => by
    rw [List.range'_succ] at hm
    obtain ⟨y, ys, hy, hys⟩ := mapM_cons_some hm
    obtain ⟨a, ha, ha2⟩ := hgo _ _ _ hy
    obtain ⟨b, hb, hb2⟩ := imp_elems hgo hc m (s + 1) hys
    rw [hc] at ha
    refine ⟨a ++ b, fun j => ?_, ?_⟩
    · rw [Nat.succ_mul, Nat.add_comm (m * _), List.take_add, List.drop_drop]
      have := hb j
      rw [Nat.succ_mul] at this
      exact (ha j).append this
    · rw [List.replicate_succ, List.flatten_cons]
      exact ha2.append hb2

theorem imp_cells : ∀ (dd : Nat) (t : TypeId) (ks : List LK), leaves P dd t = some ks → CellsOk P w base spare held enc t ks
  | 0, _, _, h => by simp [leaves] at h
  | dd + 1, t, ks, h => by
    intro fuel cs x hd
    cases fuel with
    | zero => simp [DataW.trod] at hd
    | succ fuel =>
    simp only [leaves] at h
    cases hu : P.underlying t with
    | none => simp [hu] at h
    | some u =>
      cases u <;> simp only [hu] at h <;> (try simp at h; done)
      case bool =>
        obtain rfl := Option.some.inj h
        simp only [DataW.trod, hu] at hd
        split at hd <;> first
          | (exact ⟨[.bool _], fun j => ⟨_, [], rfl, rfl, rfl⟩, ⟨_, [], rfl, ⟨_, rfl⟩, rfl⟩⟩)
          | (exfalso; simp_all; done)
      case int k =>
        obtain rfl := Option.some.inj h
        simp only [DataW.trod, hu] at hd
        split at hd <;> first
          | (rename_i k2 k' n he
             split at hd <;> (try simp at hd; done)
             rename_i hk
             obtain rfl : k = k2 := by simpa using he
             obtain ⟨rfl, hwf⟩ := hk
             exact ⟨[.int _ n], fun j => ⟨_, [], rfl, rfl, rfl⟩, ⟨_, [], rfl, ⟨n, rfl, hwf⟩, rfl⟩⟩)
          | (exfalso; simp_all; done)
      case float k =>
        obtain rfl := Option.some.inj h
        simp only [DataW.trod, hu] at hd
        split at hd <;> first
          | (rename_i k2 k' n he
             split at hd <;> (try simp at hd; done)
             rename_i hk
             obtain rfl : k = k2 := by simpa using he
             obtain ⟨rfl, hwf⟩ := hk
             exact ⟨[.float _ n], fun j => ⟨_, [], rfl, rfl, rfl⟩, ⟨_, [], rfl, ⟨n, rfl, hwf⟩, rfl⟩⟩)
          | (exfalso; simp_all; done)
      case string =>
        obtain rfl := Option.some.inj h
        simp only [DataW.trod, hu] at hd
        split at hd <;> first
          | (rename_i s he
             split at hd <;> (try simp at hd; done)
             rename_i hs
             exact ⟨[.str s.data.toList], fun j => ⟨_, [], rfl, (by simp [VR]), rfl⟩, ⟨_, [], rfl, ⟨_, rfl, by simpa using hs⟩, rfl⟩⟩)
          | (exfalso; simp_all; done)
      case struct fs =>
        split at h <;> (try simp at h; done)
        rename_i k1 hk1
        split at h <;> (try simp at h; done)
        rename_i hc
        obtain rfl := Option.some.inj h
        simp only [DataW.trod, hu] at hd
        split at hd <;> (try simp at hd; done)
        rename_i hl
        obtain ⟨r, hr, _⟩ := Option.map_eq_some_iff.1 hd
        obtain ⟨xs, h1, h2⟩ := imp_fields (fun t ks h => imp_cells dd t ks h) _ _ _ hk1 hr
        refine ⟨xs, fun j => ?_, h2⟩
        have := h1 j
        rw [List.drop_zero, List.take_of_length_le (by omega)] at this
        exact this
      case array n e =>
        split at h <;> (try simp at h; done)
        rename_i k1 hk1
        split at h <;> (try simp at h; done)
        rename_i hc
        obtain rfl := Option.some.inj h
        simp only [DataW.trod, hu] at hd
        split at hd <;> (try simp at hd; done)
        rename_i hl
        obtain ⟨r, hr, _⟩ := Option.map_eq_some_iff.1 hd
        rw [List.range_eq_range'] at hr
        obtain ⟨xs, h1, h2⟩ := imp_elems (imp_cells dd e k1 hk1) hc.1 n 0 hr
        refine ⟨xs, fun j => ?_, h2⟩
        have := h1 j
        rw [Nat.zero_mul, List.drop_zero, List.take_of_length_le (by omega)] at this
        exact this

end
end Go.Ev
