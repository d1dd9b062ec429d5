/- Statements whose order is open: what may be done in either order. -/
import Derived.Test.YtipdancojcdioaaEvJ
namespace Go.Ev
set_option linter.unusedVariables false
set_option linter.unusedSimpArgs false
open Go

def Opd.uses : Opd → List Nat
  | .t n => [n]
  | .c _ => []
def usesL (l : List Opd) : List Nat := l.flatMap Opd.uses
def usesO : Option Opd → List Nat
  | some x => x.uses
  | none => []
def usesP (l : List (Nat × Nat × Opd)) : List Nat := l.flatMap fun x => x.2.2.uses

def AOp.uses : AOp → List Nat
  | .mv x | .un _ x | .convI _ x | .same x | .nilck x | .faddr _ x | .field _ _ _ x | .load _ _ x | .box x | .extract x _ | .len _ x | .toStr x | .toBytes x => x.uses
  | .pick c a b => c.uses ++ (a.uses ++ b.uses)
  | .bin _ x y | .eqB _ x y | .eqN _ _ x y | .eqA _ _ x y | .iaddrA _ _ x y | .iaddrS _ x y | .index _ _ _ x y | .indexStr x y | .store _ x y | .mkSl _ _ _ x y | .append _ _ x y | .copy _ x y => x.uses ++ y.uses
  | .alloc _ | .lenC _ => []
  | .build _ ps => usesP ps
  | .buildSl _ _ _ ps => usesP ps
  | .sliceS _ x lo hi mx => x.uses ++ (usesO lo ++ (usesO hi ++ usesO mx))
  | .sliceStr x lo hi => x.uses ++ (usesO lo ++ usesO hi)
  | .sliceA _ _ x lo hi mx => x.uses ++ (usesO lo ++ (usesO hi ++ usesO mx))
  | .call _ args => usesL args
  | .callv x args => x.uses ++ usesL args
  | .minmax _ xs => usesL xs
  | .mkfn _ a b => usesL a ++ usesL b

/-- 0: the result hangs on the operands alone, the heap is not touched; 1: the heap is read; 2: it is written -/
def AOp.cls (md : Nat → Nat) : AOp → Nat
  | .load _ _ _ => 1
  | .sliceA _ _ _ _ _ _ => 1
  | .toStr _ => 1
  | .call f _ => match md f with
    | 2 => 0
    | 1 => 1
    | _ => 2
  | .callv _ _ => 2
  | .store _ _ _ | .alloc _ | .box _ | .buildSl _ _ _ _ | .mkSl _ _ _ _ _ | .append _ _ _ _ | .copy _ _ _ | .toBytes _ => 2
  | _ => 0

def AIns.uses (i : AIns) : List Nat := match i.guard with
  | some (t, _) => t :: i.op.uses
  | none => i.op.uses

def dstIn (d : Option Nat) (l : List Nat) : Bool := match d with
  | some d => l.contains d
  | none => false

def sameDst (x y : Option Nat) : Bool := match x, y with
  | some a, some b => a.beq b
  | _, _ => false

def commutes (md : Nat → Nat) (x y : AIns) : Bool :=
  !dstIn x.dst y.uses && !dstIn y.dst x.uses && !sameDst x.dst y.dst &&
  ((x.op.cls md).beq 0 || (y.op.cls md).beq 0 || ((x.op.cls md).beq 1 && (y.op.cls md).beq 1))

def Eqv (e e' : Env) : Prop := ∀ t, lk e t = lk e' t
def EqOn (l : List Nat) (e e' : Env) : Prop := ∀ t ∈ l, lk e t = lk e' t

theorem Eqv.refl (e : Env) : Eqv e e := fun _ => rfl
theorem Eqv.symm {e e' : Env} (h : Eqv e e') : Eqv e' e := fun t => (h t).symm
theorem Eqv.trans {a b c : Env} (h : Eqv a b) (k : Eqv b c) : Eqv a c := fun t => (h t).trans (k t)
theorem Eqv.on {e e' : Env} (h : Eqv e e') (l : List Nat) : EqOn l e e' := fun t _ => h t

theorem EqOn.left {l m : List Nat} {e e' : Env} (h : EqOn (l ++ m) e e') : EqOn l e e' := fun t ht => h t (List.mem_append.2 (.inl ht))
theorem EqOn.right {l m : List Nat} {e e' : Env} (h : EqOn (l ++ m) e e') : EqOn m e e' := fun t ht => h t (List.mem_append.2 (.inr ht))

theorem lk_put (e : Env) (d : Option Nat) (v : AV) (t : Nat) : lk (putE e d v) t = if d = some t then some v else lk e t := by
  cases d with
  | none => simp [putE]
  | some d =>
    simp only [putE, lk, Option.some.injEq]
    rw [Tr.get_set _ _ _ _ _ (by omega)]
    simp only [eq_comm]

section
variable {callF : CallF} {e e' : Env} {h : Heap}

theorem get_on {x : Opd} (hE : EqOn x.uses e e') : x.get e = x.get e' := by
  cases x with
  | t n => exact hE n (by simp [Opd.uses])
  | c v => rfl

theorem getAll_on : ∀ {l : List Opd}, EqOn (usesL l) e e' → getAll e l = getAll e' l
  | [], _ => rfl
  | x :: l, hE => by
    simp only [usesL, List.flatMap_cons] at hE
    simp only [getAll]
    rw [get_on hE.left, getAll_on (l := l) hE.right]

theorem getParts_on : ∀ {l : List (Nat × Nat × Opd)}, EqOn (usesP l) e e' → getParts e l = getParts e' l
  | [], _ => rfl
  | (a, b, x) :: l, hE => by
    simp only [usesP, List.flatMap_cons] at hE
    simp only [getParts]
    rw [get_on hE.left, getParts_on (l := l) hE.right]

theorem bound_on {d : Nat} {x : Option Opd} (hE : EqOn (usesO x) e e') : bound e d x = bound e' d x := by
  cases x with
  | none => rfl
  | some x => simp only [bound]; rw [get_on hE]

theorem run_on {p : AOp} (hE : EqOn p.uses e e') : p.run callF e h = p.run callF e' h := by
  cases p <;> simp only [AOp.uses] at hE <;> simp only [AOp.run]
  case pick c a b => rw [get_on hE.left, get_on hE.right.left, get_on hE.right.right]
  case build z ps => rw [getParts_on hE]
  case buildSl s n z ps => rw [getParts_on hE]
  case sliceS s x lo hi mx =>
    rw [get_on hE.left]
    have h1 := hE.right
    congr 1
    funext v
    have h2 := h1.right.right
    cases v <;> simp only [bound_on h1.left, bound_on h1.right.left]
    all_goals
      cases mx with
      | none =>
        split <;> first | rfl | (split <;> first | rfl | simp_all) | simp_all
      | some mo =>
        have := bound_on (d := 0) (x := some mo) h2
        split <;> first | rfl | simp_all
  case sliceStr x lo hi =>
    rw [get_on hE.left]
    have h1 := hE.right
    congr 1
    funext v
    cases v <;> simp only [bound_on h1.left, bound_on h1.right]
  case sliceA n s x lo hi mx =>
    rw [get_on hE.left]
    have h1 := hE.right
    congr 1
    funext v
    have h2 := h1.right.right
    cases v <;> simp only [bound_on h1.left, bound_on h1.right.left]
    all_goals
      congr 1
      cases mx with
      | none =>
        split <;> first | rfl | (split <;> first | rfl | simp_all) | simp_all
      | some mo =>
        have := bound_on (d := 0) (x := some mo) h2
        split <;> first | rfl | simp_all
  case call f args => rw [getAll_on hE]
  case callv x args => rw [get_on hE.left, getAll_on hE.right]
  case minmax mx xs => rw [getAll_on hE]
  case mkfn f a b => rw [getAll_on hE.left, getAll_on hE.right]
  all_goals first
    | rfl
    | (rw [get_on hE])
    | (rw [get_on hE.left, get_on hE.right])

def CallCls (callF : CallF) (md : Nat → Nat) : Prop := ∀ f args h v h', callF f args h = some (v, h') →
  (md f = 2 → h' = h ∧ ∀ h2, callF f args h2 = some (v, h2)) ∧ (md f = 1 → h' = h)

theorem on1_ext {x : Option AV} {f : AV → Option (AV × Heap)} {r : AV × Heap} : on1 x f = some r ↔ ∃ a, x = some a ∧ f a = some r := by
  cases x <;> simp [on1]
theorem opt2_ext {x y : Option AV} {f : AV → AV → Option (AV × Heap)} {r : AV × Heap} : opt2 x y f = some r ↔ ∃ a b, x = some a ∧ y = some b ∧ f a b = some r := by
  cases x <;> cases y <;> simp [opt2]
theorem pureR_ext {H H' : Heap} {x : Option AV} {v : AV} : pureR H x = some (v, H') ↔ x = some v ∧ H' = H := by
  cases x <;> simp [pureR, eq_comm]
theorem pureB_ext {H H' : Heap} {n : Bool} {x : Option Bool} {v : AV} : pureB H n x = some (v, H') ↔ ∃ b, x = some b ∧ v = .bool (b != n) ∧ H' = H := by
  cases x <;> simp [pureB, eq_comm]

theorem run_pure {md : Nat → Nat} (hmd : CallCls callF md) {p : AOp} {v : AV} {h' : Heap} (hc : p.cls md = 0) (hr : p.run callF e h = some (v, h')) :
    h' = h ∧ ∀ h2, p.run callF e h2 = some (v, h2) := by
  cases p
  case call f args =>
    simp only [AOp.cls] at hc
    split at hc <;> (try simp at hc; done)
    rename_i h2
    simp only [AOp.run] at hr ⊢
    split at hr
    · rename_i vs hvs
      obtain ⟨h1, _⟩ := hmd _ _ _ _ _ hr
      obtain ⟨rfl, h3⟩ := h1 h2
      exact ⟨rfl, fun h2 => h3 h2⟩
    · simp at hr
  all_goals try (simp [AOp.cls] at hc; done)
  case build z ps =>
    simp only [AOp.run] at hr ⊢
    split at hr
    · split at hr
      · simp only [Option.some.injEq, Prod.mk.injEq] at hr; obtain ⟨rfl, rfl⟩ := hr; exact ⟨rfl, fun _ => rfl⟩
      · simp at hr
    · simp at hr
  case minmax mx xs =>
    simp only [AOp.run] at hr ⊢
    split at hr
    · obtain ⟨h1, rfl⟩ := pureR_some hr; exact ⟨rfl, fun _ => by rw [h1]; rfl⟩
    · simp at hr
  case mkfn f a b =>
    simp only [AOp.run] at hr ⊢
    split at hr
    · simp only [Option.some.injEq, Prod.mk.injEq] at hr; obtain ⟨rfl, rfl⟩ := hr; exact ⟨rfl, fun _ => rfl⟩
    · simp at hr
  case lenC n => simp only [AOp.run, Option.some.injEq, Prod.mk.injEq] at hr ⊢; obtain ⟨rfl, rfl⟩ := hr; exact ⟨rfl, fun _ => by simp⟩
  case mv x => obtain ⟨h1, rfl⟩ := pureR_some hr; exact ⟨rfl, fun _ => pureR_ext.2 ⟨h1, rfl⟩⟩
  case pick c a b =>
    obtain ⟨u, hu, h1⟩ := on1_some hr
    cases u <;> (try simp at h1; done)
    all_goals
      obtain ⟨h2, rfl⟩ := pureR_some h1
      exact ⟨rfl, fun _ => on1_ext.2 ⟨_, hu, pureR_ext.2 ⟨h2, rfl⟩⟩⟩
  case un op x =>
    obtain ⟨u, hu, h1⟩ := on1_some hr
    obtain ⟨h2, rfl⟩ := pureR_some h1
    exact ⟨rfl, fun _ => on1_ext.2 ⟨_, hu, pureR_ext.2 ⟨h2, rfl⟩⟩⟩
  case bin op x y =>
    obtain ⟨u, u', hu, hu', h1⟩ := opt2_some hr
    obtain ⟨h2, rfl⟩ := pureR_some h1
    exact ⟨rfl, fun _ => opt2_ext.2 ⟨_, _, hu, hu', pureR_ext.2 ⟨h2, rfl⟩⟩⟩
  case eqN k n x y =>
    obtain ⟨u, u', hu, hu', h1⟩ := opt2_some hr
    obtain ⟨b, h2, h3, rfl⟩ := pureB_some h1
    exact ⟨rfl, fun _ => opt2_ext.2 ⟨_, _, hu, hu', pureB_ext.2 ⟨b, h2, h3, rfl⟩⟩⟩
  case eqB n x y =>
    obtain ⟨u, u', hu, hu', h1⟩ := opt2_some hr
    obtain ⟨h2, rfl⟩ := pureR_some h1
    exact ⟨rfl, fun _ => opt2_ext.2 ⟨_, _, hu, hu', pureR_ext.2 ⟨h2, rfl⟩⟩⟩
  case eqA ks n x y =>
    obtain ⟨u, u', hu, hu', h1⟩ := opt2_some hr
    obtain ⟨h2, rfl⟩ := pureR_some h1
    exact ⟨rfl, fun _ => opt2_ext.2 ⟨_, _, hu, hu', pureR_ext.2 ⟨h2, rfl⟩⟩⟩
  case convI k x =>
    obtain ⟨u, hu, h1⟩ := on1_some hr
    obtain ⟨h2, rfl⟩ := pureR_some h1
    exact ⟨rfl, fun _ => on1_ext.2 ⟨_, hu, pureR_ext.2 ⟨h2, rfl⟩⟩⟩
  case same x =>
    obtain ⟨u, hu, h1⟩ := on1_some hr
    cases u <;> simp at h1
    obtain ⟨rfl, rfl⟩ := h1
    exact ⟨rfl, fun _ => on1_ext.2 ⟨_, hu, rfl⟩⟩
  case nilck x =>
    obtain ⟨u, hu, h1⟩ := on1_some hr
    cases u <;> simp at h1 <;> obtain ⟨rfl, rfl⟩ := h1 <;> exact ⟨rfl, fun _ => on1_ext.2 ⟨_, hu, rfl⟩⟩
  case faddr off x =>
    obtain ⟨u, hu, h1⟩ := on1_some hr
    cases u <;> simp at h1
    obtain ⟨rfl, rfl⟩ := h1
    exact ⟨rfl, fun _ => on1_ext.2 ⟨_, hu, rfl⟩⟩
  case iaddrA n s x i =>
    obtain ⟨u, u', hu, hu', h1⟩ := opt2_some hr
    cases u <;> cases u' <;> (try simp at h1; done)
    obtain ⟨hb, h1⟩ := bif_some h1
    simp only [Option.some.injEq, Prod.mk.injEq] at h1
    obtain ⟨rfl, rfl⟩ := h1
    exact ⟨rfl, fun _ => opt2_ext.2 ⟨_, _, hu, hu', by simp only [hb, cond_true]⟩⟩
  case iaddrS s x i =>
    obtain ⟨u, u', hu, hu', h1⟩ := opt2_some hr
    cases u <;> cases u' <;> (try simp at h1; done)
    obtain ⟨hb, h1⟩ := bif_some h1
    simp only [Option.some.injEq, Prod.mk.injEq] at h1
    obtain ⟨rfl, rfl⟩ := h1
    exact ⟨rfl, fun _ => opt2_ext.2 ⟨_, _, hu, hu', by simp only [hb, cond_true]⟩⟩
  case field off s g x =>
    obtain ⟨u, hu, h1⟩ := on1_some hr
    cases u <;> (try simp at h1; done)
    obtain ⟨h2, rfl⟩ := pureR_some h1
    exact ⟨rfl, fun _ => on1_ext.2 ⟨_, hu, pureR_ext.2 ⟨h2, rfl⟩⟩⟩
  case index n s g x i =>
    obtain ⟨u, u', hu, hu', h1⟩ := opt2_some hr
    cases u <;> cases u' <;> (try simp at h1; done)
    obtain ⟨hb, h1⟩ := bif_some h1
    obtain ⟨h2, rfl⟩ := pureR_some h1
    exact ⟨rfl, fun _ => opt2_ext.2 ⟨_, _, hu, hu', by simp only [hb, cond_true]; exact pureR_ext.2 ⟨h2, rfl⟩⟩⟩
  case indexStr x i =>
    obtain ⟨u, u', hu, hu', h1⟩ := opt2_some hr
    cases u <;> (try simp at h1; done)
    cases u' <;> (try simp at h1; done)
    obtain ⟨hb, h1⟩ := bif_some h1
    split at h1
    · rename_i b hs
      simp only [Option.some.injEq, Prod.mk.injEq] at h1
      obtain ⟨rfl, rfl⟩ := h1
      exact ⟨rfl, fun _ => opt2_ext.2 ⟨_, _, hu, hu', by simp only [hb, cond_true, hs]⟩⟩
    · simp at h1
  case sliceS s x lo hi mx =>
    obtain ⟨u, hu, h1⟩ := on1_some hr
    cases u <;> (try simp at h1; done)
    · simp only at h1
      split at h1
      · rename_i a1 a2 a3
        simp only [Option.some.injEq, Prod.mk.injEq] at h1
        obtain ⟨rfl, rfl⟩ := h1
        exact ⟨rfl, fun _ => on1_ext.2 ⟨_, hu, by simp only [*]⟩⟩
      · split at h1
        · simp only [Option.some.injEq, Prod.mk.injEq] at h1
          obtain ⟨rfl, rfl⟩ := h1
          exact ⟨rfl, fun _ => on1_ext.2 ⟨_, hu, by simp only [*]⟩⟩
        · simp at h1
      · simp at h1
    · simp only at h1
      split at h1
      · obtain ⟨h2, rfl⟩ := pureR_some h1
        exact ⟨rfl, fun _ => on1_ext.2 ⟨_, hu, by simp only [*]; exact pureR_ext.2 ⟨by simp only [*], rfl⟩⟩⟩
      · split at h1
        · obtain ⟨h2, rfl⟩ := pureR_some h1
          exact ⟨rfl, fun _ => on1_ext.2 ⟨_, hu, by simp only [*]; exact pureR_ext.2 ⟨by simp only [*], rfl⟩⟩⟩
        · simp at h1
      · simp at h1
  case sliceStr x lo hi =>
    obtain ⟨u, hu, h1⟩ := on1_some hr
    cases u <;> (try simp at h1; done)
    simp only at h1
    split at h1
    · obtain ⟨hb, h1⟩ := bif_some h1
      simp only [Option.some.injEq, Prod.mk.injEq] at h1
      obtain ⟨rfl, rfl⟩ := h1
      exact ⟨rfl, fun _ => on1_ext.2 ⟨_, hu, by simp only [*]; rfl⟩⟩
    · simp at h1
  case extract x k =>
    obtain ⟨u, hu, h1⟩ := on1_some hr
    cases u <;> (try simp at h1; done)
    obtain ⟨h2, rfl⟩ := pureR_some h1
    exact ⟨rfl, fun _ => on1_ext.2 ⟨_, hu, pureR_ext.2 ⟨h2, rfl⟩⟩⟩
  case len k x =>
    obtain ⟨u, hu, h1⟩ := on1_some hr
    cases k <;> cases u <;> simp at h1 <;> obtain ⟨rfl, rfl⟩ := h1 <;> exact ⟨rfl, fun _ => on1_ext.2 ⟨_, hu, rfl⟩⟩

theorem run_reads {md : Nat → Nat} (hmd : CallCls callF md) {p : AOp} {v : AV} {h' : Heap} (hc : p.cls md = 1) (hr : p.run callF e h = some (v, h')) : h' = h := by
  cases p
  case call f args =>
    simp only [AOp.cls] at hc
    split at hc <;> (try simp at hc; done)
    rename_i h2
    simp only [AOp.run] at hr
    split at hr
    · exact (hmd _ _ _ _ _ hr).2 h2
    · simp at hr
  all_goals try (simp [AOp.cls] at hc; done)
  case load n g x =>
    obtain ⟨u, hu, h1⟩ := on1_some hr
    cases u <;> (try simp at h1; done)
    simp only at h1
    split at h1
    · cases g
      · simp only [cond_false] at h1
        split at h1
        · simp only [Option.some.injEq, Prod.mk.injEq] at h1; exact h1.2.symm
        · simp at h1
      · simp only [cond_true, Option.some.injEq, Prod.mk.injEq] at h1; exact h1.2.symm
    · simp at h1
  case sliceA n s x lo hi mx =>
    obtain ⟨u, hu, h1⟩ := on1_some hr
    cases u <;> (try simp at h1; done)
    obtain ⟨_, h1⟩ := bif_some h1
    split at h1
    · obtain ⟨_, h1⟩ := bif_some h1
      simp only [Option.some.injEq, Prod.mk.injEq] at h1; exact h1.2.symm
    · split at h1
      · obtain ⟨_, h1⟩ := bif_some h1
        simp only [Option.some.injEq, Prod.mk.injEq] at h1; exact h1.2.symm
      · simp at h1
    · simp at h1
  case toStr x =>
    obtain ⟨u, hu, h1⟩ := on1_some hr
    have h1 : (match cellsOf h 1 u with
      | some cs => (match strOfBytes cs with
        | some s => some (AV.str s, h)
        | none => none)
      | none => none) = some (v, h') := by
      cases u <;> first | exact h1 | simp at h1
    split at h1
    · split at h1
      · simp only [Option.some.injEq, Prod.mk.injEq] at h1; exact h1.2.symm
      · simp at h1
    · simp at h1

end
end Go.Ev
