/- A string that is handed in. No condition. -/
import Derived.Test.YtipdancojcdioaaShT
import Derived.Test.YtipdancojcdioaaEvR
import Derived.ChangeMaps5
namespace Go.Ev
open Go
variable {H : Type} {enc : TypeId × Value → H} {P : Program} {w : World} {spare : Nat → Bool} {held : Bool} {base : Nat}

theorem imp_str {r : Reach} {b0 : Nat} {t : TypeId} {v : Value} {d : DataW H} {p : List MemPlace} (ht : P.underlying t = some .string) (hval : Value.okWide P w r b0 t v) (h : DataW.Trod enc P w base spare held t v d p) :
    ∃ s : List UInt8, s.length ≤ maxLen ∧ ∀ j, VR j (.str s) v := by
  obtain ⟨s, rfl, _, _, hs⟩ := Go.ChangeMaps.open_string ht hval h
  exact ⟨s.data.toList, by rw [Array.length_toList]; exact hs, fun j => rfl⟩
end Go.Ev
