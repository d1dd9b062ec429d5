/-
  No cell of these rows narrows 'for every input' (looked for: loops, veiled, ifaces, maps, wideKeys, modest, calm, conditions, laid).
  DERIVED. THE GIVEN ROWS OF THIS SEAT. 4 by the template 'for every input the law returns true; each argument reads behind the call as it read before'; 0 by the template 'total and deterministic' (their statements: YtkcfkegkhopakaaTotals.lean).
  GIVEN WITH THE SEED: the statements are not yours to turn. If you find one false, say at which input.
  Laid BY PROGRAM, IN A SANDBOX (cutbox-rows.mjs): the forced cells as the released guide's own fill.sh prints them over the translation 607a32c994df30a5… (all of the seat's roots in one cut). By AI agents, Wed Nov 11 2026. No macro, syntax, notation, axiom, sorry.
-/
import Derived.Test.YtkcfkegkhopakaaChecked
import GoSem.Claim
import GoSem.ClaimJoined
import GoSem.ClaimMapViews
import Derived.JoinedTies
import Derived.KernelRfl
namespace Go.Proofs.Ytkcfkegkhopakaa
/- THE CELL 'sum', in the pinned program and in every row, IS THE sha256 OF THE DUMP (.gsa) THAT YtkcfkegkhopakaaProg.lean LOADS. Nothing in Lean hashes anything: it is a label: what it is worth is what the hold of that sum in a sandbox is worth. -/
noncomputable def Try.pinned : Pinned := { name := "ytkcfkegkhopakaa", sum := "607a32c994df30a59568d007295bb884567fa42665271703b9e3caf8393a3a91", checked := Try.checked }
namespace Rows
def none {H : Type} : Left H := { results := [], args := [] }

/-- 'undertowlaw07.EncodeWords': WHATEVER THE INPUT: true; the input reads as it did. -/
def encodeWordsSpec : ChangeSpec := { name := "encodeWords", fn := fun _ => fun
  | [d] => { results := [.lit (.bool true)], args := [d] }
  | _ => none }
def encodeWordsRow : OpenClaim := { program := "ytkcfkegkhopakaa", sum := "607a32c994df30a59568d007295bb884567fa42665271703b9e3caf8393a3a91", func := "undertow/undertowlaw07.EncodeWords", spec := "encodeWords", unfollowed := true, recurses := true, apart := false }
def EncodeWordsSaid : Prop := encodeWordsRow.holds Try.pinned (OpenSpec.ofChange encodeWordsSpec)

/-- ITS FALSE NEIGHBOUR: 'it returns false'. Refute it at one input. -/
def encodeWordsWrong : ChangeSpec := { name := "encodeWords", fn := fun _ => fun
  | [d] => { results := [.lit (.bool false)], args := [d] }
  | _ => none }
def EncodeWordsWrongFalsely : Prop := encodeWordsRow.holds Try.pinned (OpenSpec.ofChange encodeWordsWrong)

/-- 'undertowlaw07.EncodeBack': WHATEVER THE INPUT: true; the input reads as it did. -/
def encodeBackSpec : ChangeSpec := { name := "encodeBack", fn := fun _ => fun
  | [d1, d2] => { results := [.lit (.bool true)], args := [d1, d2] }
  | _ => none }
def encodeBackRow : OpenClaim := { program := "ytkcfkegkhopakaa", sum := "607a32c994df30a59568d007295bb884567fa42665271703b9e3caf8393a3a91", func := "undertow/undertowlaw07.EncodeBack", spec := "encodeBack", unfollowed := true, recurses := true, apart := false }
def EncodeBackSaid : Prop := encodeBackRow.holds Try.pinned (OpenSpec.ofChange encodeBackSpec)

/-- ITS FALSE NEIGHBOUR: 'it returns false'. Refute it at one input. -/
def encodeBackWrong : ChangeSpec := { name := "encodeBack", fn := fun _ => fun
  | [d1, d2] => { results := [.lit (.bool false)], args := [d1, d2] }
  | _ => none }
def EncodeBackWrongFalsely : Prop := encodeBackRow.holds Try.pinned (OpenSpec.ofChange encodeBackWrong)

/-- 'undertowlaw07.EncodeUnlike': WHATEVER THE INPUT: true; the input reads as it did. -/
def encodeUnlikeSpec : ChangeSpec := { name := "encodeUnlike", fn := fun _ => fun
  | [d1, d2] => { results := [.lit (.bool true)], args := [d1, d2] }
  | _ => none }
def encodeUnlikeRow : OpenClaim := { program := "ytkcfkegkhopakaa", sum := "607a32c994df30a59568d007295bb884567fa42665271703b9e3caf8393a3a91", func := "undertow/undertowlaw07.EncodeUnlike", spec := "encodeUnlike", unfollowed := true, recurses := true, apart := false }
def EncodeUnlikeSaid : Prop := encodeUnlikeRow.holds Try.pinned (OpenSpec.ofChange encodeUnlikeSpec)

/-- ITS FALSE NEIGHBOUR: 'it returns false'. Refute it at one input. -/
def encodeUnlikeWrong : ChangeSpec := { name := "encodeUnlike", fn := fun _ => fun
  | [d1, d2] => { results := [.lit (.bool false)], args := [d1, d2] }
  | _ => none }
def EncodeUnlikeWrongFalsely : Prop := encodeUnlikeRow.holds Try.pinned (OpenSpec.ofChange encodeUnlikeWrong)

/-- 'undertowlaw07.EncodePrograms': WHATEVER THE INPUT: true; the input reads as it did. -/
def encodeProgramsSpec : ChangeSpec := { name := "encodePrograms", fn := fun _ => fun
  | [d1, d2] => { results := [.lit (.bool true)], args := [d1, d2] }
  | _ => none }
def encodeProgramsRow : OpenClaim := { program := "ytkcfkegkhopakaa", sum := "607a32c994df30a59568d007295bb884567fa42665271703b9e3caf8393a3a91", func := "undertow/undertowlaw07.EncodePrograms", spec := "encodePrograms", unfollowed := true, recurses := true, apart := false }
def EncodeProgramsSaid : Prop := encodeProgramsRow.holds Try.pinned (OpenSpec.ofChange encodeProgramsSpec)

/-- ITS FALSE NEIGHBOUR: 'it returns false'. Refute it at one input. -/
def encodeProgramsWrong : ChangeSpec := { name := "encodePrograms", fn := fun _ => fun
  | [d1, d2] => { results := [.lit (.bool false)], args := [d1, d2] }
  | _ => none }
def EncodeProgramsWrongFalsely : Prop := encodeProgramsRow.holds Try.pinned (OpenSpec.ofChange encodeProgramsWrong)

/- THE SECOND FORM. 'bulk': how many values and letters a reading holds, each counted each time it is reached (what is shared counts as often as it is met; a slice's spare places count too). A statement '..UptoSaid' is the law's where the arguments, and the package variables that the reading takes, are together of bulk at most 1048576: NARROWER than '..Said'. Prove '..Said' where nothing that the law and all that it calls make is longer than what came in: it says more and counts as full. Else prove '..UptoSaid'. A law counts once. -/
mutual
def uptoBulk {H : Type} : DataW H → Nat
  | .lit (.string bytes) => bytes.length + 1
  | .lit _ => 1
  | .nil => 1
  | .ptr d => uptoBulk d + 1
  | .slice elems spare => uptoBulkAll elems + uptoBulkAll spare + 1
  | .agg parts => uptoBulkAll parts + 1
  | .iface _ d => uptoBulk d + 1
  | .map entries => uptoBulkEntries entries + 1
  | .held _ => 1
def uptoBulkAll {H : Type} : List (DataW H) → Nat
  | [] => 0
  | d :: r => uptoBulk d + uptoBulkAll r
def uptoBulkEntries {H : Type} : List (Lit × DataW H) → Nat
  | [] => 0
  | x :: r => uptoBulkEntry x + uptoBulkEntries r
def uptoBulkEntry {H : Type} : Lit × DataW H → Nat
  | (.string bytes, d) => bytes.length + uptoBulk d + 1
  | (_, d) => uptoBulk d + 1
 end
def uptoSmall : (H : Type) → List (DataW H) → Bool := fun _ ds => decide (uptoBulkAll ds ≤ 1048576)
def OpenSpec.upto (s : _root_.Go.ChangeSpec) : _root_.Go.OpenSpec := { _root_.Go.OpenSpec.ofChange s with cond := some uptoSmall }

/-- 'undertowlaw07.EncodeWords', WHERE WHAT IT READS IS OF BULK AT MOST 1048576: true; the input reads as it did. -/
def encodeWordsUptoRow : OpenClaim := { program := "ytkcfkegkhopakaa", sum := "607a32c994df30a59568d007295bb884567fa42665271703b9e3caf8393a3a91", func := "undertow/undertowlaw07.EncodeWords", spec := "encodeWords", unfollowed := true, recurses := true, apart := false, narrowed := true }
def EncodeWordsUptoSaid : Prop := encodeWordsUptoRow.holds Try.pinned (OpenSpec.upto encodeWordsSpec)

/-- 'undertowlaw07.EncodeBack', WHERE WHAT IT READS IS OF BULK AT MOST 1048576: true; the input reads as it did. -/
def encodeBackUptoRow : OpenClaim := { program := "ytkcfkegkhopakaa", sum := "607a32c994df30a59568d007295bb884567fa42665271703b9e3caf8393a3a91", func := "undertow/undertowlaw07.EncodeBack", spec := "encodeBack", unfollowed := true, recurses := true, apart := false, narrowed := true }
def EncodeBackUptoSaid : Prop := encodeBackUptoRow.holds Try.pinned (OpenSpec.upto encodeBackSpec)

/-- 'undertowlaw07.EncodeUnlike', WHERE WHAT IT READS IS OF BULK AT MOST 1048576: true; the input reads as it did. -/
def encodeUnlikeUptoRow : OpenClaim := { program := "ytkcfkegkhopakaa", sum := "607a32c994df30a59568d007295bb884567fa42665271703b9e3caf8393a3a91", func := "undertow/undertowlaw07.EncodeUnlike", spec := "encodeUnlike", unfollowed := true, recurses := true, apart := false, narrowed := true }
def EncodeUnlikeUptoSaid : Prop := encodeUnlikeUptoRow.holds Try.pinned (OpenSpec.upto encodeUnlikeSpec)

/-- 'undertowlaw07.EncodePrograms', WHERE WHAT IT READS IS OF BULK AT MOST 1048576: true; the input reads as it did. -/
def encodeProgramsUptoRow : OpenClaim := { program := "ytkcfkegkhopakaa", sum := "607a32c994df30a59568d007295bb884567fa42665271703b9e3caf8393a3a91", func := "undertow/undertowlaw07.EncodePrograms", spec := "encodePrograms", unfollowed := true, recurses := true, apart := false, narrowed := true }
def EncodeProgramsUptoSaid : Prop := encodeProgramsUptoRow.holds Try.pinned (OpenSpec.upto encodeProgramsSpec)

end Rows
end Go.Proofs.Ytkcfkegkhopakaa
