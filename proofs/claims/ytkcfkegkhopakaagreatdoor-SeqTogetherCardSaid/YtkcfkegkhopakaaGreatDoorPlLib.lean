/- The library's contracts at this program. -/
import Derived.Test.YtkcfkegkhopakaaGreatDoorEvX3
import Derived.Test.YtkcfkegkhopakaaGreatDoorShelf
import Derived.Lib.AtoiErrMem
import Derived.ProofKit
namespace Go.Proofs.YtkcfkegkhopakaaGreatDoor
open Go Go.Ev Go.RowKit
set_option linter.unusedVariables false

def libF : LibF := ⟨59, 89, 88, 191, 95⟩

theorem libEnter : LibEnter Tryz.prog libF where
  itoa := enters_of Tryz.func59 (by kernel_rfl) rfl
  fint := enters_of Tryz.func89 (by kernel_rfl) rfl
  pint := enters_of Tryz.func88 (by kernel_rfl) rfl
  index := enters_of Tryz.func191 (by kernel_rfl) rfl
  join := enters_of Tryz.func95 (by kernel_rfl) rfl

theorem libC {w : World} (h : LibOk Tryz.prog 3 w) : LibC Tryz.prog libF w where
  itoa := fun n h0 h1 => (Tryz.strconv_Itoa n h0 h1 w h.pow).mono (by rintro e w' ⟨rfl, k, os, rfl⟩; exact ⟨rfl, below_grow w k os⟩)
  fint := fun n h0 h1 => (Tryz.strconv_FormatInt_10 n h0 h1 w h.pow).mono (by rintro e w' ⟨rfl, k, os, rfl⟩; exact ⟨rfl, below_grow w k os⟩)
  pok := fun s v hs hv => (Tryz.strconv_ParseInt_10_at64_ok s (by omega) v hv w).mono (by
    rintro e w' ⟨rfl, rfl | ⟨t, rfl⟩⟩
    · exact ⟨rfl, Below.refl _ _⟩
    · exact ⟨rfl, Lib.bytesWorld_below _ _ _⟩)
  psyn := fun s hs hv => by
    obtain ⟨tp, p, hp⟩ := h.syn
    refine (Tryz.strconv_ParseInt_10_at64_syntax_var s hs hv tp p w hp).mono ?_
    rintro e w' ⟨N, rfl, _, _, hb⟩
    exact ⟨⟨_, _, rfl⟩, hb⟩
  prng := fun s hs hv => by
    obtain ⟨tp, p, hp⟩ := h.rng
    refine (Tryz.strconv_ParseInt_10_at64_range_var s hs hv tp p w hp).mono ?_
    rintro e w' ⟨N, rfl, _, _, hb⟩
    exact ⟨⟨_, _, rfl⟩, hb⟩
  index := fun s sub hs => by
    obtain ⟨m, hm⟩ := h.max
    refine (Tryz.stringslite_Index s sub m w hs hm).mono ?_
    rintro e w' ⟨rfl, rfl⟩
    exact ⟨rfl, Below.refl _ _⟩
  join := fun bk o c xs sep h1 h2 h3 h4 h5 => Tryz.strings_Join bk o c xs sep w h1 h2 h3 h4 h5
  jnone := fun a c sep => (Tryz.strings_Join_none a c sep w).mono (by rintro e w' ⟨rfl, rfl⟩; exact ⟨rfl, Below.refl _ _⟩)

end Go.Proofs.YtkcfkegkhopakaaGreatDoor
