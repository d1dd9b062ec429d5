/- The table of the functions that the proofs reach, each read out of the program itself. No condition. -/
import Derived.Test.YtkcfkegkhopakaaGreatDoorPlFu
import Derived.Test.YtkcfkegkhopakaaGreatDoorChecked
namespace Go.Proofs.YtkcfkegkhopakaaGreatDoor
open Go Go.Ev
set_option maxRecDepth 100000
/-- four bits for each function: its mode and one; five and more: not in the table -/
noncomputable def dgSa : Nat := 0x33700333317000000001000033333113333200000333700313000003313131300003233333333333333000333433330003333333333333333211333333300333323332234334034333771143333333333333333341210332773323334333333333333333330000000021334423333330000000200000
noncomputable def dmSa (f : Nat) : Nat := Nat.mod (Nat.shiftRight dgSa (Nat.mul 4 f)) 16
noncomputable def mdSa (f : Nat) : Nat := Nat.mod (Nat.sub (dmSa f) 1) 4
noncomputable def onSa (f : Nat) : Bool := Nat.ble 1 (dmSa f) && Nat.ble (dmSa f) 4
noncomputable def szSa (f : Nat) : Nat := bif (mdSa f).beq 3 then 1 else 0
noncomputable def TSa : Nat → Option AFunc := autoT Tryz.prog mdSa szSa onSa
theorem goodTSa : GoodT Tryz.prog mdSa TSa := autoT_good _ _ _ _
noncomputable def R63Sa := (mkRg Tryz.prog mdSa 63).get (by kernel_rfl)
noncomputable def I200Sa := (mkIt Tryz.prog mdSa 200 2 2).get (by kernel_rfl)
noncomputable def TB0Sa : Tab := { fn := TSa, sp := spU (spL libF), hx := hxL libF 63 R63Sa I200Sa }
theorem goodTab0Sa [Home] (hL : ∀ w, Home.I w → LibOk Tryz.prog 3 w) : GoodTab Tryz.prog mdSa TB0Sa :=
  { fn := goodTSa, sp := spU_good hL (spL_good libEnter (fun w h => libC (hL w h))), hx := hxL_good (by kernel_rfl) libEnter (fun w h => libC (hL w h)) (mkRg_good (Option.some_get _).symm) (mkIt_good (Option.some_get _).symm) rfl rfl }
end Go.Proofs.YtkcfkegkhopakaaGreatDoor
