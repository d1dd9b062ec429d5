/- The table of the functions that the proofs reach, each read out of the program itself. No condition. -/
import Derived.Test.YtkcfkegkhopakaaGreatDoorPlLib
import Derived.Test.YtkcfkegkhopakaaGreatDoorChecked
namespace Go.Proofs.YtkcfkegkhopakaaGreatDoor
open Go Go.Ev
set_option maxRecDepth 100000
/-- four bits for each function: its mode and one; five and more: not in the table -/
noncomputable def dgSw : Nat := 0x1000000000000000000000333700313000000000000300003233333333333333000333433330000003000003030003000333333300333323332234334034333770000030000030033333000000330703303334333333333333333030000000000000000333333000000033000
noncomputable def dmSw (f : Nat) : Nat := Nat.mod (Nat.shiftRight dgSw (Nat.mul 4 f)) 16
noncomputable def mdSw (f : Nat) : Nat := Nat.mod (Nat.sub (dmSw f) 1) 4
noncomputable def onSw (f : Nat) : Bool := Nat.ble 1 (dmSw f) && Nat.ble (dmSw f) 4
noncomputable def szSw (f : Nat) : Nat := bif (mdSw f).beq 3 then 1 else 0
noncomputable def TSw : Nat → Option AFunc := autoT Tryz.prog mdSw szSw onSw
theorem goodTSw : GoodT Tryz.prog mdSw TSw := autoT_good _ _ _ _
noncomputable def TB0Sw : Tab := { fn := TSw, sp := spL libF, hx := hxJ libF }
theorem goodTab0Sw [Home] (hL : ∀ w, Home.I w → LibOk Tryz.prog 3 w) : GoodTab Tryz.prog mdSw TB0Sw :=
  { fn := goodTSw, sp := spL_good libEnter (fun w h => libC (hL w h)), hx := hxJ_good libEnter (fun w h => libC (hL w h)) rfl }
end Go.Proofs.YtkcfkegkhopakaaGreatDoor
