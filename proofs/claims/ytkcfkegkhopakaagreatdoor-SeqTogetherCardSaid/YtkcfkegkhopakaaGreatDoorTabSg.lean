/- The table of the functions that the proofs reach, each read out of the program itself. No condition. -/
import Derived.Test.YtkcfkegkhopakaaGreatDoorPlLib
import Derived.Test.YtkcfkegkhopakaaGreatDoorChecked
namespace Go.Proofs.YtkcfkegkhopakaaGreatDoor
open Go Go.Ev
set_option maxRecDepth 100000
/-- four bits for each function: its mode and one; five and more: not in the table -/
noncomputable def dgSg : Nat := 0x33700333317000000001000033333113333200000333700313000003313131300003233333333333333000333433330003333333333333333211303333300333323332234334034333771143333333333333333341210032773320000300303333333333332112222321030000030000020220000000
noncomputable def dmSg (f : Nat) : Nat := Nat.mod (Nat.shiftRight dgSg (Nat.mul 4 f)) 16
noncomputable def mdSg (f : Nat) : Nat := Nat.mod (Nat.sub (dmSg f) 1) 4
noncomputable def onSg (f : Nat) : Bool := Nat.ble 1 (dmSg f) && Nat.ble (dmSg f) 4
noncomputable def szSg (f : Nat) : Nat := bif (mdSg f).beq 3 then 1 else 0
noncomputable def TSg : Nat → Option AFunc := autoT Tryz.prog mdSg szSg onSg
theorem goodTSg : GoodT Tryz.prog mdSg TSg := autoT_good _ _ _ _
noncomputable def R63Sg := (mkRg Tryz.prog mdSg 63).get (by kernel_rfl)
noncomputable def I200Sg := (mkIt Tryz.prog mdSg 200 2 2).get (by kernel_rfl)
noncomputable def TB0Sg : Tab := { fn := TSg, sp := spL libF, hx := hxL libF 63 R63Sg I200Sg }
theorem goodTab0Sg [Home] (hL : ∀ w, Home.I w → LibOk Tryz.prog 3 w) : GoodTab Tryz.prog mdSg TB0Sg :=
  { fn := goodTSg, sp := spL_good libEnter (fun w h => libC (hL w h)), hx := hxL_good (by kernel_rfl) libEnter (fun w h => libC (hL w h)) (mkRg_good (Option.some_get _).symm) (mkIt_good (Option.some_get _).symm) rfl rfl }
end Go.Proofs.YtkcfkegkhopakaaGreatDoor
