/- The table of functions: made out of the loaded program. -/
import Derived.Test.YtipdancojcdioaaEvO
namespace Go.Ev
set_option linter.unusedVariables false
set_option linter.unusedSimpArgs false
open Go

def mkF (P : Program) (md : Nat → Nat) (f mode size : Nat) : Option AFunc :=
  match P.funcs[f]? with
  | some fn => if fn.name == "runtime.NumGoroutine" then none else
    match fn.body with
    | some code => match cC P md fn.ntmps code, cRes P fn.results.toList with
      | some body, some rs => some ⟨mode, size, rs, body⟩
      | _, _ => none
    | none => none
  | none => none

theorem mkF_good {P : Program} {md : Nat → Nat} {f mode size : Nat} {F : AFunc} (h : mkF P md f mode size = some F) : F.mode = mode ∧ GoodF P md f F := by
  unfold mkF at h
  split at h <;> (try simp at h; done)
  rename_i fn hfn
  split at h <;> (try simp at h; done)
  rename_i hn
  split at h <;> (try simp at h; done)
  rename_i code hcode
  split at h <;> (try simp at h; done)
  rename_i body rs hb hr
  obtain rfl := Option.some.inj h
  exact ⟨rfl, fn, code, hfn, hcode, by simpa using hn, hb, hr⟩

theorem good_of_mkF {P : Program} {md : Nat → Nat} {f k mode size : Nat} {F G : AFunc} (hf : f.beq k = true) (h : some G = some F) (g : mkF P md k mode size = some G) (hm : md k = mode) : F.mode = md f ∧ GoodF P md f F := by
  obtain rfl : f = k := Nat.eq_of_beq_eq_true hf
  obtain rfl := Option.some.inj h
  obtain ⟨a, b⟩ := mkF_good g
  exact ⟨a.trans hm.symm, b⟩

theorem bif_split {α : Type} {b : Bool} {x y z : α} {p : Prop} (h : (bif b then x else y) = z) (h1 : b = true → x = z → p) (h2 : y = z → p) : p := by
  cases b with
  | true => exact h1 rfl h
  | false => exact h2 h

end Go.Ev
