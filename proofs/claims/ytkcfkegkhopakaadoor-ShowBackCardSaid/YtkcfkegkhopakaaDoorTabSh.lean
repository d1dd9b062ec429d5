/- The table of the functions that the proofs reach, each read out of the program itself. No condition. -/
import Derived.Test.YtkcfkegkhopakaaDoorPlLib
import Derived.Test.YtkcfkegkhopakaaDoorChecked
namespace Go.Proofs.YtkcfkegkhopakaaDoor
open Go Go.Ev
set_option maxRecDepth 100000
/-- four bits for each function: its mode and one; five and more: not in the table -/
noncomputable def dgSh : Nat := 0x1000333700333310000070000333333000333433333000000000322343303433330003333773333333333000
noncomputable def dmSh (f : Nat) : Nat := Nat.mod (Nat.shiftRight dgSh (Nat.mul 4 f)) 16
noncomputable def mdSh (f : Nat) : Nat := Nat.mod (Nat.sub (dmSh f) 1) 4
noncomputable def onSh (f : Nat) : Bool := Nat.ble 1 (dmSh f) && Nat.ble (dmSh f) 4
noncomputable def szSh (f : Nat) : Nat := bif (mdSh f).beq 3 then 1 else 0
noncomputable def TSh : Nat → Option AFunc := autoT Tryd.prog mdSh szSh onSh
theorem goodTSh : GoodT Tryd.prog mdSh TSh := autoT_good _ _ _ _
noncomputable def TB0Sh : Tab := { fn := TSh, sp := spL libF, hx := hxJ libF }
theorem goodTab0Sh [Home] (hL : ∀ w, Home.I w → LibOk Tryd.prog 3 w) : GoodTab Tryd.prog mdSh TB0Sh :=
  { fn := goodTSh, sp := spL_good libEnter (fun w h => libC (hL w h)), hx := hxJ_good libEnter (fun w h => libC (hL w h)) rfl }
end Go.Proofs.YtkcfkegkhopakaaDoor
