/-
  DERIVED. GIVEN WITH THE SEED: THE CARDS: each row of YtkcfkegkhopakaaGreatDoorRows.lean that lists a variable, with what it lists TIED to the program's text (the seventh form; the later family's looks); each row that meets fmt, with fmt's text TOLD by the authors' own Lean function (tested against real Go, not proved from fmt's source: count such statements apart). THE CARD IS WHAT COUNTS. Prove the row's statement (the work); the ties are given (YtkcfkegkhopakaaGreatDoorTie.lean); close each card by the builder's one call (the guide's Derived/Test/ToyasCard.lean, 'card_holds'). Laid BY PROGRAM, IN A SANDBOX (cutbox-door.mjs). By AI agents, Wed Nov 11 2026. No macro, syntax, notation, axiom, sorry.
-/
import Derived.Test.YtkcfkegkhopakaaGreatDoorRows
import GoSem.ClaimSeven
namespace Go.Proofs.YtkcfkegkhopakaaGreatDoor
namespace Rows

/-- THE TIED CARD OF 'undertowlaw09.ShowTexts'. -/
def showTextsCard : Claim7 := { stood := { row := showTextsRow, standIns := [], harness := (true, "9e2463d3c644127c95cf2bcac973771c29e6dc06e526da3e67b668e9618ccdfd"), looks := true }, kinds := [], alts := [], laidByText := true, laidKinds := [.data, .data, .data, .sentinel, .sentinel], laidTests := true, laidLooks := .later }
def ShowTextsCardSaid : Prop := Claim7.holds Tryz.pinned (.plain (OpenSpec.ofChange showTextsSpec)) showTextsCard

/-- THE TIED CARD OF 'undertowlaw09.ShowReads'. -/
def showReadsCard : Claim7 := { stood := { row := showReadsRow, standIns := [], harness := (true, "9e2463d3c644127c95cf2bcac973771c29e6dc06e526da3e67b668e9618ccdfd"), looks := true }, kinds := [], alts := [], laidByText := true, laidKinds := [.data, .data, .data, .sentinel, .sentinel], laidTests := true, laidLooks := .later }
def ShowReadsCardSaid : Prop := Claim7.holds Tryz.pinned (.plain (OpenSpec.ofChange showReadsSpec)) showReadsCard

/-- THE TIED CARD OF 'undertowlaw10.AsmLines'. -/
def asmLinesCard : Claim7 := { stood := { row := asmLinesRow, standIns := [], harness := (true, "9e2463d3c644127c95cf2bcac973771c29e6dc06e526da3e67b668e9618ccdfd"), looks := true }, kinds := [], alts := [], laidByText := true, laidKinds := [.data, .data, .data, .data, .sentinel, .sentinel, .pinned], laidTests := true, laidLooks := .later }
def AsmLinesCardSaid : Prop := Claim7.holds Tryz.pinned (.plain (OpenSpec.ofChange asmLinesSpec)) asmLinesCard

/-- THE TIED CARD OF 'undertowlaw10.AsmBack'. -/
def asmBackCard : Claim7 := { stood := { row := asmBackRow, standIns := [], harness := (true, "9e2463d3c644127c95cf2bcac973771c29e6dc06e526da3e67b668e9618ccdfd"), looks := true }, kinds := [], alts := [], laidByText := true, laidKinds := [.data, .data, .data, .data, .sentinel, .sentinel, .pinned], laidTests := true, laidLooks := .later }
def AsmBackCardSaid : Prop := Claim7.holds Tryz.pinned (.plain (OpenSpec.ofChange asmBackSpec)) asmBackCard

/-- THE TIED CARD OF 'undertowlaw11.SeqSteps'. -/
def seqStepsCard : Claim7 := { stood := { row := seqStepsRow, standIns := [], harness := (true, "9e2463d3c644127c95cf2bcac973771c29e6dc06e526da3e67b668e9618ccdfd"), looks := true }, kinds := [], alts := [], laidByText := true, laidKinds := [.data, .data, .data, .data, .sentinel, .sentinel, .pinned], laidTests := true, laidLooks := .later }
def SeqStepsCardSaid : Prop := Claim7.holds Tryz.pinned (.plain (OpenSpec.ofChange seqStepsSpec)) seqStepsCard

/-- THE TIED CARD OF 'undertowlaw11.SeqAlone'. -/
def seqAloneCard : Claim7 := { stood := { row := seqAloneRow, standIns := [], harness := (true, "9e2463d3c644127c95cf2bcac973771c29e6dc06e526da3e67b668e9618ccdfd"), looks := true }, kinds := [], alts := [], laidByText := true, laidKinds := [.data, .data, .data, .data, .sentinel, .sentinel, .pinned], laidTests := true, laidLooks := .later }
def SeqAloneCardSaid : Prop := Claim7.holds Tryz.pinned (.plain (OpenSpec.ofChange seqAloneSpec)) seqAloneCard

/-- THE TIED CARD OF 'undertowlaw11.SeqStays'. -/
def seqStaysCard : Claim7 := { stood := { row := seqStaysRow, standIns := [], harness := (true, "9e2463d3c644127c95cf2bcac973771c29e6dc06e526da3e67b668e9618ccdfd"), looks := true }, kinds := [], alts := [], laidByText := true, laidKinds := [.data, .data, .data, .data, .sentinel, .sentinel, .pinned], laidTests := true, laidLooks := .later }
def SeqStaysCardSaid : Prop := Claim7.holds Tryz.pinned (.plain (OpenSpec.ofChange seqStaysSpec)) seqStaysCard

/-- THE TIED CARD OF 'undertowlaw11.SeqTogether'. -/
def seqTogetherCard : Claim7 := { stood := { row := seqTogetherRow, standIns := [], harness := (true, "9e2463d3c644127c95cf2bcac973771c29e6dc06e526da3e67b668e9618ccdfd"), looks := true }, kinds := [], alts := [], laidByText := true, laidKinds := [.data, .data, .data, .data, .sentinel, .sentinel, .pinned], laidTests := true, laidLooks := .later }
def SeqTogetherCardSaid : Prop := Claim7.holds Tryz.pinned (.plain (OpenSpec.ofChange seqTogetherSpec)) seqTogetherCard

/-- THE TIED CARD OF 'undertowlaw11.SeqStores'. -/
def seqStoresCard : Claim7 := { stood := { row := seqStoresRow, standIns := [], harness := (true, "9e2463d3c644127c95cf2bcac973771c29e6dc06e526da3e67b668e9618ccdfd"), looks := true }, kinds := [], alts := [], laidByText := true, laidKinds := [.data, .data, .data, .data, .sentinel, .sentinel, .pinned], laidTests := true, laidLooks := .later }
def SeqStoresCardSaid : Prop := Claim7.holds Tryz.pinned (.plain (OpenSpec.ofChange seqStoresSpec)) seqStoresCard

/-- THE SECOND FORM's CARD OF 'undertowlaw09.ShowTexts'. -/
def showTextsUptoCard : Claim7 := { stood := { row := showTextsUptoRow, standIns := [], harness := (true, "9e2463d3c644127c95cf2bcac973771c29e6dc06e526da3e67b668e9618ccdfd"), looks := true }, kinds := [], alts := [], laidByText := true, laidKinds := [.data, .data, .data, .sentinel, .sentinel], laidTests := true, laidLooks := .later }
def ShowTextsUptoCardSaid : Prop := Claim7.holds Tryz.pinned (.plain (OpenSpec.upto showTextsSpec)) showTextsUptoCard

/-- THE SECOND FORM's CARD OF 'undertowlaw09.ShowReads'. -/
def showReadsUptoCard : Claim7 := { stood := { row := showReadsUptoRow, standIns := [], harness := (true, "9e2463d3c644127c95cf2bcac973771c29e6dc06e526da3e67b668e9618ccdfd"), looks := true }, kinds := [], alts := [], laidByText := true, laidKinds := [.data, .data, .data, .sentinel, .sentinel], laidTests := true, laidLooks := .later }
def ShowReadsUptoCardSaid : Prop := Claim7.holds Tryz.pinned (.plain (OpenSpec.upto showReadsSpec)) showReadsUptoCard

/-- THE SECOND FORM's CARD OF 'undertowlaw10.AsmLines'. -/
def asmLinesUptoCard : Claim7 := { stood := { row := asmLinesUptoRow, standIns := [], harness := (true, "9e2463d3c644127c95cf2bcac973771c29e6dc06e526da3e67b668e9618ccdfd"), looks := true }, kinds := [], alts := [], laidByText := true, laidKinds := [.data, .data, .data, .data, .sentinel, .sentinel, .pinned], laidTests := true, laidLooks := .later }
def AsmLinesUptoCardSaid : Prop := Claim7.holds Tryz.pinned (.plain (OpenSpec.upto asmLinesSpec)) asmLinesUptoCard

/-- THE SECOND FORM's CARD OF 'undertowlaw10.AsmBack'. -/
def asmBackUptoCard : Claim7 := { stood := { row := asmBackUptoRow, standIns := [], harness := (true, "9e2463d3c644127c95cf2bcac973771c29e6dc06e526da3e67b668e9618ccdfd"), looks := true }, kinds := [], alts := [], laidByText := true, laidKinds := [.data, .data, .data, .data, .sentinel, .sentinel, .pinned], laidTests := true, laidLooks := .later }
def AsmBackUptoCardSaid : Prop := Claim7.holds Tryz.pinned (.plain (OpenSpec.upto asmBackSpec)) asmBackUptoCard

/-- THE SECOND FORM's CARD OF 'undertowlaw11.SeqSteps'. -/
def seqStepsUptoCard : Claim7 := { stood := { row := seqStepsUptoRow, standIns := [], harness := (true, "9e2463d3c644127c95cf2bcac973771c29e6dc06e526da3e67b668e9618ccdfd"), looks := true }, kinds := [], alts := [], laidByText := true, laidKinds := [.data, .data, .data, .data, .sentinel, .sentinel, .pinned], laidTests := true, laidLooks := .later }
def SeqStepsUptoCardSaid : Prop := Claim7.holds Tryz.pinned (.plain (OpenSpec.upto seqStepsSpec)) seqStepsUptoCard

/-- THE SECOND FORM's CARD OF 'undertowlaw11.SeqAlone'. -/
def seqAloneUptoCard : Claim7 := { stood := { row := seqAloneUptoRow, standIns := [], harness := (true, "9e2463d3c644127c95cf2bcac973771c29e6dc06e526da3e67b668e9618ccdfd"), looks := true }, kinds := [], alts := [], laidByText := true, laidKinds := [.data, .data, .data, .data, .sentinel, .sentinel, .pinned], laidTests := true, laidLooks := .later }
def SeqAloneUptoCardSaid : Prop := Claim7.holds Tryz.pinned (.plain (OpenSpec.upto seqAloneSpec)) seqAloneUptoCard

/-- THE SECOND FORM's CARD OF 'undertowlaw11.SeqStays'. -/
def seqStaysUptoCard : Claim7 := { stood := { row := seqStaysUptoRow, standIns := [], harness := (true, "9e2463d3c644127c95cf2bcac973771c29e6dc06e526da3e67b668e9618ccdfd"), looks := true }, kinds := [], alts := [], laidByText := true, laidKinds := [.data, .data, .data, .data, .sentinel, .sentinel, .pinned], laidTests := true, laidLooks := .later }
def SeqStaysUptoCardSaid : Prop := Claim7.holds Tryz.pinned (.plain (OpenSpec.upto seqStaysSpec)) seqStaysUptoCard

/-- THE SECOND FORM's CARD OF 'undertowlaw11.SeqTogether'. -/
def seqTogetherUptoCard : Claim7 := { stood := { row := seqTogetherUptoRow, standIns := [], harness := (true, "9e2463d3c644127c95cf2bcac973771c29e6dc06e526da3e67b668e9618ccdfd"), looks := true }, kinds := [], alts := [], laidByText := true, laidKinds := [.data, .data, .data, .data, .sentinel, .sentinel, .pinned], laidTests := true, laidLooks := .later }
def SeqTogetherUptoCardSaid : Prop := Claim7.holds Tryz.pinned (.plain (OpenSpec.upto seqTogetherSpec)) seqTogetherUptoCard

/-- THE SECOND FORM's CARD OF 'undertowlaw11.SeqStores'. -/
def seqStoresUptoCard : Claim7 := { stood := { row := seqStoresUptoRow, standIns := [], harness := (true, "9e2463d3c644127c95cf2bcac973771c29e6dc06e526da3e67b668e9618ccdfd"), looks := true }, kinds := [], alts := [], laidByText := true, laidKinds := [.data, .data, .data, .data, .sentinel, .sentinel, .pinned], laidTests := true, laidLooks := .later }
def SeqStoresUptoCardSaid : Prop := Claim7.holds Tryz.pinned (.plain (OpenSpec.upto seqStoresSpec)) seqStoresUptoCard
end Rows
end Go.Proofs.YtkcfkegkhopakaaGreatDoor
