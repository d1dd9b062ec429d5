/- The library's contracts at this program. -/
import Derived.Test.YtkcfkegkhopakaaDoorEvX3
import Derived.Test.YtkcfkegkhopakaaDoorShelf
import Derived.Lib.AtoiErrMem
import Derived.ProofKit
namespace Go.Proofs.YtkcfkegkhopakaaDoor
open Go Go.Ev Go.RowKit
set_option linter.unusedVariables false

def libF : LibF := ⟨67, 14, 13, 80, 28⟩

theorem libEnter : LibEnter Tryd.prog libF where
  itoa := enters_of Tryd.func67 (by kernel_rfl) rfl
  fint := enters_of Tryd.func14 (by kernel_rfl) rfl
  pint := enters_of Tryd.func13 (by kernel_rfl) rfl
  index := enters_of Tryd.func80 (by kernel_rfl) rfl
  join := enters_of Tryd.func28 (by kernel_rfl) rfl

theorem libC {w : World} (h : LibOk Tryd.prog 3 w) : LibC Tryd.prog libF w where
  itoa := fun n h0 h1 => (Tryd.strconv_Itoa n h0 h1 w h.pow).mono (by rintro e w' ⟨rfl, k, os, rfl⟩; exact ⟨rfl, below_grow w k os⟩)
  fint := fun n h0 h1 => (Tryd.strconv_FormatInt_10 n h0 h1 w h.pow).mono (by rintro e w' ⟨rfl, k, os, rfl⟩; exact ⟨rfl, below_grow w k os⟩)
  pok := fun s v hs hv => (Tryd.strconv_ParseInt_10_at64_ok s (by omega) v hv w).mono (by
    rintro e w' ⟨rfl, rfl | ⟨t, rfl⟩⟩
    · exact ⟨rfl, Below.refl _ _⟩
    · exact ⟨rfl, Lib.bytesWorld_below _ _ _⟩)
  psyn := fun s hs hv => by
    obtain ⟨tp, p, hp⟩ := h.syn
    refine (Tryd.strconv_ParseInt_10_at64_syntax_var s hs hv tp p w hp).mono ?_
    rintro e w' ⟨N, rfl, _, _, hb⟩
    exact ⟨⟨_, _, rfl⟩, hb⟩
  prng := fun s hs hv => by
    obtain ⟨tp, p, hp⟩ := h.rng
    refine (Tryd.strconv_ParseInt_10_at64_range_var s hs hv tp p w hp).mono ?_
    rintro e w' ⟨N, rfl, _, _, hb⟩
    exact ⟨⟨_, _, rfl⟩, hb⟩
  index := fun s sub hs => by
    obtain ⟨m, hm⟩ := h.max
    refine (Tryd.stringslite_Index s sub m w hs hm).mono ?_
    rintro e w' ⟨rfl, rfl⟩
    exact ⟨rfl, Below.refl _ _⟩
  join := fun bk o c xs sep h1 h2 h3 h4 h5 => Tryd.strings_Join bk o c xs sep w h1 h2 h3 h4 h5
  jnone := fun a c sep => (Tryd.strings_Join_none a c sep w).mono (by rintro e w' ⟨rfl, rfl⟩; exact ⟨rfl, Below.refl _ _⟩)

end Go.Proofs.YtkcfkegkhopakaaDoor
