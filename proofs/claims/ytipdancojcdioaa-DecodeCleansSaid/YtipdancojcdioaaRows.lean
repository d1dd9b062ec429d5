/-
  No cell of these rows narrows 'for every input' (looked for: loops, veiled, ifaces, maps, wideKeys, modest, calm, conditions, laid).
  DERIVED. THE GIVEN ROWS OF THIS SEAT. 12 by the template 'for every input the law returns true; each argument reads behind the call as it read before'; 0 by the template 'total and deterministic' (their statements: YtipdancojcdioaaTotals.lean).
  GIVEN WITH THE SEED: the statements are not yours to turn. If you find one false, say at which input.
  Laid BY PROGRAM, IN A SANDBOX (cutbox-rows.mjs): the forced cells as the released guide's own fill.sh prints them over the translation 263dc7015d45abd2… (all of the seat's roots in one cut). By AI agents, Wed Nov 11 2026. No macro, syntax, notation, axiom, sorry.
-/
import Derived.Test.YtipdancojcdioaaChecked
import GoSem.Claim
import GoSem.ClaimJoined
import GoSem.ClaimMapViews
import Derived.JoinedTies
import Derived.KernelRfl
namespace Go.Proofs.Ytipdancojcdioaa
/- THE CELL 'sum', in the pinned program and in every row, IS THE sha256 OF THE DUMP (.gsa) THAT YtipdancojcdioaaProg.lean LOADS. Nothing in Lean hashes anything: it is a label: what it is worth is what the hold of that sum in a sandbox is worth. -/
noncomputable def Try.pinned : Pinned := { name := "ytipdancojcdioaa", sum := "263dc7015d45abd2beee6ee5f1afa61be970b4172d75912b901005eb9aeb291a", checked := Try.checked }
namespace Rows
def none {H : Type} : Left H := { results := [], args := [] }

/-- 'undertowlaw15.NamesUndone': WHATEVER THE INPUT: true; the input reads as it did. -/
def namesUndoneSpec : ChangeSpec := { name := "namesUndone", fn := fun _ => fun
  | [d1, d2, d3] => { results := [.lit (.bool true)], args := [d1, d2, d3] }
  | _ => none }
def namesUndoneRow : OpenClaim := { program := "ytipdancojcdioaa", sum := "263dc7015d45abd2beee6ee5f1afa61be970b4172d75912b901005eb9aeb291a", func := "undertow/undertowlaw15.NamesUndone", spec := "namesUndone", apart := false }
def NamesUndoneSaid : Prop := namesUndoneRow.holds Try.pinned (OpenSpec.ofChange namesUndoneSpec)

/-- ITS FALSE NEIGHBOUR: 'it returns false'. Refute it at one input. -/
def namesUndoneWrong : ChangeSpec := { name := "namesUndone", fn := fun _ => fun
  | [d1, d2, d3] => { results := [.lit (.bool false)], args := [d1, d2, d3] }
  | _ => none }
def NamesUndoneWrongFalsely : Prop := namesUndoneRow.holds Try.pinned (OpenSpec.ofChange namesUndoneWrong)

/-- 'undertowlaw15.NamesLast': WHATEVER THE INPUT: true; the input reads as it did. -/
def namesLastSpec : ChangeSpec := { name := "namesLast", fn := fun _ => fun
  | [d1, d2, d3] => { results := [.lit (.bool true)], args := [d1, d2, d3] }
  | _ => none }
def namesLastRow : OpenClaim := { program := "ytipdancojcdioaa", sum := "263dc7015d45abd2beee6ee5f1afa61be970b4172d75912b901005eb9aeb291a", func := "undertow/undertowlaw15.NamesLast", spec := "namesLast", apart := false }
def NamesLastSaid : Prop := namesLastRow.holds Try.pinned (OpenSpec.ofChange namesLastSpec)

/-- ITS FALSE NEIGHBOUR: 'it returns false'. Refute it at one input. -/
def namesLastWrong : ChangeSpec := { name := "namesLast", fn := fun _ => fun
  | [d1, d2, d3] => { results := [.lit (.bool false)], args := [d1, d2, d3] }
  | _ => none }
def NamesLastWrongFalsely : Prop := namesLastRow.holds Try.pinned (OpenSpec.ofChange namesLastWrong)

/-- 'undertowlaw05.OpsNames': WHATEVER THE INPUT: true; the input reads as it did. -/
def opsNamesSpec : ChangeSpec := { name := "opsNames", fn := fun _ => fun
  | [d1, d2] => { results := [.lit (.bool true)], args := [d1, d2] }
  | _ => none }
def opsNamesRow : OpenClaim := { program := "ytipdancojcdioaa", sum := "263dc7015d45abd2beee6ee5f1afa61be970b4172d75912b901005eb9aeb291a", func := "undertow/undertowlaw05.OpsNames", spec := "opsNames", apart := false }
def OpsNamesSaid : Prop := opsNamesRow.holds Try.pinned (OpenSpec.ofChange opsNamesSpec)

/-- ITS FALSE NEIGHBOUR: 'it returns false'. Refute it at one input. -/
def opsNamesWrong : ChangeSpec := { name := "opsNames", fn := fun _ => fun
  | [d1, d2] => { results := [.lit (.bool false)], args := [d1, d2] }
  | _ => none }
def OpsNamesWrongFalsely : Prop := opsNamesRow.holds Try.pinned (OpenSpec.ofChange opsNamesWrong)

/-- 'undertowlaw15.NamesPlays': WHATEVER THE INPUT: true; the input reads as it did. -/
def namesPlaysSpec : ChangeSpec := { name := "namesPlays", fn := fun _ => fun
  | [d1, d2] => { results := [.lit (.bool true)], args := [d1, d2] }
  | _ => none }
def namesPlaysRow : OpenClaim := { program := "ytipdancojcdioaa", sum := "263dc7015d45abd2beee6ee5f1afa61be970b4172d75912b901005eb9aeb291a", func := "undertow/undertowlaw15.NamesPlays", spec := "namesPlays", apart := false }
def NamesPlaysSaid : Prop := namesPlaysRow.holds Try.pinned (OpenSpec.ofChange namesPlaysSpec)

/-- ITS FALSE NEIGHBOUR: 'it returns false'. Refute it at one input. -/
def namesPlaysWrong : ChangeSpec := { name := "namesPlays", fn := fun _ => fun
  | [d1, d2] => { results := [.lit (.bool false)], args := [d1, d2] }
  | _ => none }
def NamesPlaysWrongFalsely : Prop := namesPlaysRow.holds Try.pinned (OpenSpec.ofChange namesPlaysWrong)

/-- 'undertowlaw15.NamesNone': WHATEVER THE INPUT: true; the input reads as it did. -/
def namesNoneSpec : ChangeSpec := { name := "namesNone", fn := fun _ => fun
  | [d] => { results := [.lit (.bool true)], args := [d] }
  | _ => none }
def namesNoneRow : OpenClaim := { program := "ytipdancojcdioaa", sum := "263dc7015d45abd2beee6ee5f1afa61be970b4172d75912b901005eb9aeb291a", func := "undertow/undertowlaw15.NamesNone", spec := "namesNone", apart := false }
def NamesNoneSaid : Prop := namesNoneRow.holds Try.pinned (OpenSpec.ofChange namesNoneSpec)

/-- ITS FALSE NEIGHBOUR: 'it returns false'. Refute it at one input. -/
def namesNoneWrong : ChangeSpec := { name := "namesNone", fn := fun _ => fun
  | [d] => { results := [.lit (.bool false)], args := [d] }
  | _ => none }
def NamesNoneWrongFalsely : Prop := namesNoneRow.holds Try.pinned (OpenSpec.ofChange namesNoneWrong)

/-- 'undertowlaw05.OpsRegisters': WHATEVER THE INPUT: true; the input reads as it did. -/
def opsRegistersSpec : ChangeSpec := { name := "opsRegisters", fn := fun _ => fun
  | [d] => { results := [.lit (.bool true)], args := [d] }
  | _ => none }
def opsRegistersRow : OpenClaim := { program := "ytipdancojcdioaa", sum := "263dc7015d45abd2beee6ee5f1afa61be970b4172d75912b901005eb9aeb291a", func := "undertow/undertowlaw05.OpsRegisters", spec := "opsRegisters", apart := false }
def OpsRegistersSaid : Prop := opsRegistersRow.holds Try.pinned (OpenSpec.ofChange opsRegistersSpec)

/-- ITS FALSE NEIGHBOUR: 'it returns false'. Refute it at one input. -/
def opsRegistersWrong : ChangeSpec := { name := "opsRegisters", fn := fun _ => fun
  | [d] => { results := [.lit (.bool false)], args := [d] }
  | _ => none }
def OpsRegistersWrongFalsely : Prop := opsRegistersRow.holds Try.pinned (OpenSpec.ofChange opsRegistersWrong)

/-- 'undertowlaw05.OpsSorts': WHATEVER THE INPUT: true; the input reads as it did. -/
def opsSortsSpec : ChangeSpec := { name := "opsSorts", fn := fun _ => fun
  | [d] => { results := [.lit (.bool true)], args := [d] }
  | _ => none }
def opsSortsRow : OpenClaim := { program := "ytipdancojcdioaa", sum := "263dc7015d45abd2beee6ee5f1afa61be970b4172d75912b901005eb9aeb291a", func := "undertow/undertowlaw05.OpsSorts", spec := "opsSorts", apart := false }
def OpsSortsSaid : Prop := opsSortsRow.holds Try.pinned (OpenSpec.ofChange opsSortsSpec)

/-- ITS FALSE NEIGHBOUR: 'it returns false'. Refute it at one input. -/
def opsSortsWrong : ChangeSpec := { name := "opsSorts", fn := fun _ => fun
  | [d] => { results := [.lit (.bool false)], args := [d] }
  | _ => none }
def OpsSortsWrongFalsely : Prop := opsSortsRow.holds Try.pinned (OpenSpec.ofChange opsSortsWrong)

/-- 'undertowlaw16.LsqBehind': WHATEVER THE INPUT: true; the input reads as it did. -/
def lsqBehindSpec : ChangeSpec := { name := "lsqBehind", fn := fun _ => fun
  | [d1, d2, d3] => { results := [.lit (.bool true)], args := [d1, d2, d3] }
  | _ => none }
def lsqBehindRow : OpenClaim := { program := "ytipdancojcdioaa", sum := "263dc7015d45abd2beee6ee5f1afa61be970b4172d75912b901005eb9aeb291a", func := "undertow/undertowlaw16.LsqBehind", spec := "lsqBehind", apart := false }
def LsqBehindSaid : Prop := lsqBehindRow.holds Try.pinned (OpenSpec.ofChange lsqBehindSpec)

/-- ITS FALSE NEIGHBOUR: 'it returns false'. Refute it at one input. -/
def lsqBehindWrong : ChangeSpec := { name := "lsqBehind", fn := fun _ => fun
  | [d1, d2, d3] => { results := [.lit (.bool false)], args := [d1, d2, d3] }
  | _ => none }
def LsqBehindWrongFalsely : Prop := lsqBehindRow.holds Try.pinned (OpenSpec.ofChange lsqBehindWrong)

/-- 'undertowlaw06.DecodeWords': WHATEVER THE INPUT: true; the input reads as it did. -/
def decodeWordsSpec : ChangeSpec := { name := "decodeWords", fn := fun _ => fun
  | [d] => { results := [.lit (.bool true)], args := [d] }
  | _ => none }
def decodeWordsRow : OpenClaim := { program := "ytipdancojcdioaa", sum := "263dc7015d45abd2beee6ee5f1afa61be970b4172d75912b901005eb9aeb291a", func := "undertow/undertowlaw06.DecodeWords", spec := "decodeWords", unfollowed := true, recurses := true, apart := false }
def DecodeWordsSaid : Prop := decodeWordsRow.holds Try.pinned (OpenSpec.ofChange decodeWordsSpec)

/-- ITS FALSE NEIGHBOUR: 'it returns false'. Refute it at one input. -/
def decodeWordsWrong : ChangeSpec := { name := "decodeWords", fn := fun _ => fun
  | [d] => { results := [.lit (.bool false)], args := [d] }
  | _ => none }
def DecodeWordsWrongFalsely : Prop := decodeWordsRow.holds Try.pinned (OpenSpec.ofChange decodeWordsWrong)

/-- 'undertowlaw06.DecodeFields': WHATEVER THE INPUT: true; the input reads as it did. -/
def decodeFieldsSpec : ChangeSpec := { name := "decodeFields", fn := fun _ => fun
  | [d1, d2] => { results := [.lit (.bool true)], args := [d1, d2] }
  | _ => none }
def decodeFieldsRow : OpenClaim := { program := "ytipdancojcdioaa", sum := "263dc7015d45abd2beee6ee5f1afa61be970b4172d75912b901005eb9aeb291a", func := "undertow/undertowlaw06.DecodeFields", spec := "decodeFields", unfollowed := true, recurses := true, apart := false }
def DecodeFieldsSaid : Prop := decodeFieldsRow.holds Try.pinned (OpenSpec.ofChange decodeFieldsSpec)

/-- ITS FALSE NEIGHBOUR: 'it returns false'. Refute it at one input. -/
def decodeFieldsWrong : ChangeSpec := { name := "decodeFields", fn := fun _ => fun
  | [d1, d2] => { results := [.lit (.bool false)], args := [d1, d2] }
  | _ => none }
def DecodeFieldsWrongFalsely : Prop := decodeFieldsRow.holds Try.pinned (OpenSpec.ofChange decodeFieldsWrong)

/-- 'undertowlaw06.DecodeCleans': WHATEVER THE INPUT: true; the input reads as it did. -/
def decodeCleansSpec : ChangeSpec := { name := "decodeCleans", fn := fun _ => fun
  | [d] => { results := [.lit (.bool true)], args := [d] }
  | _ => none }
def decodeCleansRow : OpenClaim := { program := "ytipdancojcdioaa", sum := "263dc7015d45abd2beee6ee5f1afa61be970b4172d75912b901005eb9aeb291a", func := "undertow/undertowlaw06.DecodeCleans", spec := "decodeCleans", unfollowed := true, recurses := true, apart := false }
def DecodeCleansSaid : Prop := decodeCleansRow.holds Try.pinned (OpenSpec.ofChange decodeCleansSpec)

/-- ITS FALSE NEIGHBOUR: 'it returns false'. Refute it at one input. -/
def decodeCleansWrong : ChangeSpec := { name := "decodeCleans", fn := fun _ => fun
  | [d] => { results := [.lit (.bool false)], args := [d] }
  | _ => none }
def DecodeCleansWrongFalsely : Prop := decodeCleansRow.holds Try.pinned (OpenSpec.ofChange decodeCleansWrong)

/-- 'undertowlaw06.DecodeSome': WHATEVER THE INPUT: true; the input reads as it did. -/
def decodeSomeSpec : ChangeSpec := { name := "decodeSome", fn := fun _ => fun
  | [d1, d2] => { results := [.lit (.bool true)], args := [d1, d2] }
  | _ => none }
def decodeSomeRow : OpenClaim := { program := "ytipdancojcdioaa", sum := "263dc7015d45abd2beee6ee5f1afa61be970b4172d75912b901005eb9aeb291a", func := "undertow/undertowlaw06.DecodeSome", spec := "decodeSome", unfollowed := true, recurses := true, apart := false }
def DecodeSomeSaid : Prop := decodeSomeRow.holds Try.pinned (OpenSpec.ofChange decodeSomeSpec)

/-- ITS FALSE NEIGHBOUR: 'it returns false'. Refute it at one input. -/
def decodeSomeWrong : ChangeSpec := { name := "decodeSome", fn := fun _ => fun
  | [d1, d2] => { results := [.lit (.bool false)], args := [d1, d2] }
  | _ => none }
def DecodeSomeWrongFalsely : Prop := decodeSomeRow.holds Try.pinned (OpenSpec.ofChange decodeSomeWrong)

/- THE SECOND FORM. 'bulk': how many values and letters a reading holds, each counted each time it is reached (what is shared counts as often as it is met; a slice's spare places count too). A statement '..UptoSaid' is the law's where the arguments, and the package variables that the reading takes, are together of bulk at most 1048576: NARROWER than '..Said'. Prove '..Said' where nothing that the law and all that it calls make is longer than what came in: it says more and counts as full. Else prove '..UptoSaid'. A law counts once. -/
mutual
def uptoBulk {H : Type} : DataW H → Nat
  | .lit (.string bytes) => bytes.length + 1
  | .lit _ => 1
  | .nil => 1
  | .ptr d => uptoBulk d + 1
  | .slice elems spare => uptoBulkAll elems + uptoBulkAll spare + 1
  | .agg parts => uptoBulkAll parts + 1
  | .iface _ d => uptoBulk d + 1
  | .map entries => uptoBulkEntries entries + 1
  | .held _ => 1
def uptoBulkAll {H : Type} : List (DataW H) → Nat
  | [] => 0
  | d :: r => uptoBulk d + uptoBulkAll r
def uptoBulkEntries {H : Type} : List (Lit × DataW H) → Nat
  | [] => 0
  | x :: r => uptoBulkEntry x + uptoBulkEntries r
def uptoBulkEntry {H : Type} : Lit × DataW H → Nat
  | (.string bytes, d) => bytes.length + uptoBulk d + 1
  | (_, d) => uptoBulk d + 1
 end
def uptoSmall : (H : Type) → List (DataW H) → Bool := fun _ ds => decide (uptoBulkAll ds ≤ 1048576)
def OpenSpec.upto (s : _root_.Go.ChangeSpec) : _root_.Go.OpenSpec := { _root_.Go.OpenSpec.ofChange s with cond := some uptoSmall }

/-- 'undertowlaw15.NamesUndone', WHERE WHAT IT READS IS OF BULK AT MOST 1048576: true; the input reads as it did. -/
def namesUndoneUptoRow : OpenClaim := { program := "ytipdancojcdioaa", sum := "263dc7015d45abd2beee6ee5f1afa61be970b4172d75912b901005eb9aeb291a", func := "undertow/undertowlaw15.NamesUndone", spec := "namesUndone", apart := false, narrowed := true }
def NamesUndoneUptoSaid : Prop := namesUndoneUptoRow.holds Try.pinned (OpenSpec.upto namesUndoneSpec)

/-- 'undertowlaw15.NamesLast', WHERE WHAT IT READS IS OF BULK AT MOST 1048576: true; the input reads as it did. -/
def namesLastUptoRow : OpenClaim := { program := "ytipdancojcdioaa", sum := "263dc7015d45abd2beee6ee5f1afa61be970b4172d75912b901005eb9aeb291a", func := "undertow/undertowlaw15.NamesLast", spec := "namesLast", apart := false, narrowed := true }
def NamesLastUptoSaid : Prop := namesLastUptoRow.holds Try.pinned (OpenSpec.upto namesLastSpec)

/-- 'undertowlaw05.OpsNames', WHERE WHAT IT READS IS OF BULK AT MOST 1048576: true; the input reads as it did. -/
def opsNamesUptoRow : OpenClaim := { program := "ytipdancojcdioaa", sum := "263dc7015d45abd2beee6ee5f1afa61be970b4172d75912b901005eb9aeb291a", func := "undertow/undertowlaw05.OpsNames", spec := "opsNames", apart := false, narrowed := true }
def OpsNamesUptoSaid : Prop := opsNamesUptoRow.holds Try.pinned (OpenSpec.upto opsNamesSpec)

/-- 'undertowlaw15.NamesPlays', WHERE WHAT IT READS IS OF BULK AT MOST 1048576: true; the input reads as it did. -/
def namesPlaysUptoRow : OpenClaim := { program := "ytipdancojcdioaa", sum := "263dc7015d45abd2beee6ee5f1afa61be970b4172d75912b901005eb9aeb291a", func := "undertow/undertowlaw15.NamesPlays", spec := "namesPlays", apart := false, narrowed := true }
def NamesPlaysUptoSaid : Prop := namesPlaysUptoRow.holds Try.pinned (OpenSpec.upto namesPlaysSpec)

/-- 'undertowlaw15.NamesNone', WHERE WHAT IT READS IS OF BULK AT MOST 1048576: true; the input reads as it did. -/
def namesNoneUptoRow : OpenClaim := { program := "ytipdancojcdioaa", sum := "263dc7015d45abd2beee6ee5f1afa61be970b4172d75912b901005eb9aeb291a", func := "undertow/undertowlaw15.NamesNone", spec := "namesNone", apart := false, narrowed := true }
def NamesNoneUptoSaid : Prop := namesNoneUptoRow.holds Try.pinned (OpenSpec.upto namesNoneSpec)

/-- 'undertowlaw05.OpsRegisters', WHERE WHAT IT READS IS OF BULK AT MOST 1048576: true; the input reads as it did. -/
def opsRegistersUptoRow : OpenClaim := { program := "ytipdancojcdioaa", sum := "263dc7015d45abd2beee6ee5f1afa61be970b4172d75912b901005eb9aeb291a", func := "undertow/undertowlaw05.OpsRegisters", spec := "opsRegisters", apart := false, narrowed := true }
def OpsRegistersUptoSaid : Prop := opsRegistersUptoRow.holds Try.pinned (OpenSpec.upto opsRegistersSpec)

/-- 'undertowlaw05.OpsSorts', WHERE WHAT IT READS IS OF BULK AT MOST 1048576: true; the input reads as it did. -/
def opsSortsUptoRow : OpenClaim := { program := "ytipdancojcdioaa", sum := "263dc7015d45abd2beee6ee5f1afa61be970b4172d75912b901005eb9aeb291a", func := "undertow/undertowlaw05.OpsSorts", spec := "opsSorts", apart := false, narrowed := true }
def OpsSortsUptoSaid : Prop := opsSortsUptoRow.holds Try.pinned (OpenSpec.upto opsSortsSpec)

/-- 'undertowlaw16.LsqBehind', WHERE WHAT IT READS IS OF BULK AT MOST 1048576: true; the input reads as it did. -/
def lsqBehindUptoRow : OpenClaim := { program := "ytipdancojcdioaa", sum := "263dc7015d45abd2beee6ee5f1afa61be970b4172d75912b901005eb9aeb291a", func := "undertow/undertowlaw16.LsqBehind", spec := "lsqBehind", apart := false, narrowed := true }
def LsqBehindUptoSaid : Prop := lsqBehindUptoRow.holds Try.pinned (OpenSpec.upto lsqBehindSpec)

/-- 'undertowlaw06.DecodeWords', WHERE WHAT IT READS IS OF BULK AT MOST 1048576: true; the input reads as it did. -/
def decodeWordsUptoRow : OpenClaim := { program := "ytipdancojcdioaa", sum := "263dc7015d45abd2beee6ee5f1afa61be970b4172d75912b901005eb9aeb291a", func := "undertow/undertowlaw06.DecodeWords", spec := "decodeWords", unfollowed := true, recurses := true, apart := false, narrowed := true }
def DecodeWordsUptoSaid : Prop := decodeWordsUptoRow.holds Try.pinned (OpenSpec.upto decodeWordsSpec)

/-- 'undertowlaw06.DecodeFields', WHERE WHAT IT READS IS OF BULK AT MOST 1048576: true; the input reads as it did. -/
def decodeFieldsUptoRow : OpenClaim := { program := "ytipdancojcdioaa", sum := "263dc7015d45abd2beee6ee5f1afa61be970b4172d75912b901005eb9aeb291a", func := "undertow/undertowlaw06.DecodeFields", spec := "decodeFields", unfollowed := true, recurses := true, apart := false, narrowed := true }
def DecodeFieldsUptoSaid : Prop := decodeFieldsUptoRow.holds Try.pinned (OpenSpec.upto decodeFieldsSpec)

/-- 'undertowlaw06.DecodeCleans', WHERE WHAT IT READS IS OF BULK AT MOST 1048576: true; the input reads as it did. -/
def decodeCleansUptoRow : OpenClaim := { program := "ytipdancojcdioaa", sum := "263dc7015d45abd2beee6ee5f1afa61be970b4172d75912b901005eb9aeb291a", func := "undertow/undertowlaw06.DecodeCleans", spec := "decodeCleans", unfollowed := true, recurses := true, apart := false, narrowed := true }
def DecodeCleansUptoSaid : Prop := decodeCleansUptoRow.holds Try.pinned (OpenSpec.upto decodeCleansSpec)

/-- 'undertowlaw06.DecodeSome', WHERE WHAT IT READS IS OF BULK AT MOST 1048576: true; the input reads as it did. -/
def decodeSomeUptoRow : OpenClaim := { program := "ytipdancojcdioaa", sum := "263dc7015d45abd2beee6ee5f1afa61be970b4172d75912b901005eb9aeb291a", func := "undertow/undertowlaw06.DecodeSome", spec := "decodeSome", unfollowed := true, recurses := true, apart := false, narrowed := true }
def DecodeSomeUptoSaid : Prop := decodeSomeUptoRow.holds Try.pinned (OpenSpec.upto decodeSomeSpec)

end Rows
end Go.Proofs.Ytipdancojcdioaa
