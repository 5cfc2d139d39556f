/-
  DERIVED. GIVEN WITH THE SEED: THE CARDS: each row of YtjolkombhdibcaaDoorRows.lean that lists a variable, with what it lists TIED to the program's text (the seventh form; the later family's looks); each row that meets fmt, with fmt's text TOLD by the authors' own Lean function (tested against real Go, not proved from fmt's source: count such statements apart). THE CARD IS WHAT COUNTS. Prove the row's statement (the work); the ties are given (YtjolkombhdibcaaDoorTie.lean); close each card by the builder's one call (the guide's Derived/Test/ToyasCard.lean, 'card_holds'). Laid BY PROGRAM, IN A SANDBOX (cutbox-door.mjs). By AI agents, Wed Nov 11 2026. No macro, syntax, notation, axiom, sorry.
-/
import Derived.Test.YtjolkombhdibcaaDoorRows
import GoSem.ClaimSeven
namespace Go.Proofs.YtjolkombhdibcaaDoor
namespace Rows

/-- THE TIED CARD OF 'casketlaw11.LexReads'. -/
def lexReadsCard : Claim7 := { stood := { row := lexReadsRow, standIns := [], harness := (true, "431a033b8f36b9d9c52e85b2436dbd75d9d44333d6a5eb7a63f0f069f0875b74"), looks := true }, kinds := [], alts := [], laidByText := true, laidKinds := [.data, .data, .data, .sentinel, .sentinel], laidTests := true, laidLooks := .later }
def LexReadsCardSaid : Prop := Claim7.holds Tryd.pinned (.plain (OpenSpec.ofChange lexReadsSpec)) lexReadsCard

/-- THE TIED CARD OF 'casketlaw11.LexLong'. -/
def lexLongCard : Claim7 := { stood := { row := lexLongRow, standIns := [], harness := (true, "431a033b8f36b9d9c52e85b2436dbd75d9d44333d6a5eb7a63f0f069f0875b74"), looks := true }, kinds := [], alts := [], laidByText := true, laidKinds := [.data, .data, .data, .sentinel, .sentinel], laidTests := true, laidLooks := .later }
def LexLongCardSaid : Prop := Claim7.holds Tryd.pinned (.plain (OpenSpec.ofChange lexLongSpec)) lexLongCard

/-- THE TIED CARD OF 'casketlaw11.LexBlanks'. -/
def lexBlanksCard : Claim7 := { stood := { row := lexBlanksRow, standIns := [], harness := (true, "431a033b8f36b9d9c52e85b2436dbd75d9d44333d6a5eb7a63f0f069f0875b74"), looks := true }, kinds := [], alts := [], laidByText := true, laidKinds := [.data, .data, .data, .sentinel, .sentinel], laidTests := true, laidLooks := .later }
def LexBlanksCardSaid : Prop := Claim7.holds Tryd.pinned (.plain (OpenSpec.ofChange lexBlanksSpec)) lexBlanksCard

/-- THE TIED CARD OF 'casketlaw11.LexTwo'. -/
def lexTwoCard : Claim7 := { stood := { row := lexTwoRow, standIns := [], harness := (true, "431a033b8f36b9d9c52e85b2436dbd75d9d44333d6a5eb7a63f0f069f0875b74"), looks := true }, kinds := [], alts := [], laidByText := true, laidKinds := [.data, .data, .data, .sentinel, .sentinel], laidTests := true, laidLooks := .later }
def LexTwoCardSaid : Prop := Claim7.holds Tryd.pinned (.plain (OpenSpec.ofChange lexTwoSpec)) lexTwoCard

/-- THE TIED CARD OF 'casketlaw11.LexNumbers'. -/
def lexNumbersCard : Claim7 := { stood := { row := lexNumbersRow, standIns := [], harness := (true, "431a033b8f36b9d9c52e85b2436dbd75d9d44333d6a5eb7a63f0f069f0875b74"), looks := true }, kinds := [], alts := [], laidByText := true, laidKinds := [.data, .data, .data, .sentinel, .sentinel], laidTests := true, laidLooks := .later }
def LexNumbersCardSaid : Prop := Claim7.holds Tryd.pinned (.plain (OpenSpec.ofChange lexNumbersSpec)) lexNumbersCard

/-- THE SECOND FORM's CARD OF 'casketlaw11.LexReads'. -/
def lexReadsUptoCard : Claim7 := { stood := { row := lexReadsUptoRow, standIns := [], harness := (true, "431a033b8f36b9d9c52e85b2436dbd75d9d44333d6a5eb7a63f0f069f0875b74"), looks := true }, kinds := [], alts := [], laidByText := true, laidKinds := [.data, .data, .data, .sentinel, .sentinel], laidTests := true, laidLooks := .later }
def LexReadsUptoCardSaid : Prop := Claim7.holds Tryd.pinned (.plain (OpenSpec.upto lexReadsSpec)) lexReadsUptoCard

/-- THE SECOND FORM's CARD OF 'casketlaw11.LexLong'. -/
def lexLongUptoCard : Claim7 := { stood := { row := lexLongUptoRow, standIns := [], harness := (true, "431a033b8f36b9d9c52e85b2436dbd75d9d44333d6a5eb7a63f0f069f0875b74"), looks := true }, kinds := [], alts := [], laidByText := true, laidKinds := [.data, .data, .data, .sentinel, .sentinel], laidTests := true, laidLooks := .later }
def LexLongUptoCardSaid : Prop := Claim7.holds Tryd.pinned (.plain (OpenSpec.upto lexLongSpec)) lexLongUptoCard

/-- THE SECOND FORM's CARD OF 'casketlaw11.LexBlanks'. -/
def lexBlanksUptoCard : Claim7 := { stood := { row := lexBlanksUptoRow, standIns := [], harness := (true, "431a033b8f36b9d9c52e85b2436dbd75d9d44333d6a5eb7a63f0f069f0875b74"), looks := true }, kinds := [], alts := [], laidByText := true, laidKinds := [.data, .data, .data, .sentinel, .sentinel], laidTests := true, laidLooks := .later }
def LexBlanksUptoCardSaid : Prop := Claim7.holds Tryd.pinned (.plain (OpenSpec.upto lexBlanksSpec)) lexBlanksUptoCard

/-- THE SECOND FORM's CARD OF 'casketlaw11.LexTwo'. -/
def lexTwoUptoCard : Claim7 := { stood := { row := lexTwoUptoRow, standIns := [], harness := (true, "431a033b8f36b9d9c52e85b2436dbd75d9d44333d6a5eb7a63f0f069f0875b74"), looks := true }, kinds := [], alts := [], laidByText := true, laidKinds := [.data, .data, .data, .sentinel, .sentinel], laidTests := true, laidLooks := .later }
def LexTwoUptoCardSaid : Prop := Claim7.holds Tryd.pinned (.plain (OpenSpec.upto lexTwoSpec)) lexTwoUptoCard

/-- THE SECOND FORM's CARD OF 'casketlaw11.LexNumbers'. -/
def lexNumbersUptoCard : Claim7 := { stood := { row := lexNumbersUptoRow, standIns := [], harness := (true, "431a033b8f36b9d9c52e85b2436dbd75d9d44333d6a5eb7a63f0f069f0875b74"), looks := true }, kinds := [], alts := [], laidByText := true, laidKinds := [.data, .data, .data, .sentinel, .sentinel], laidTests := true, laidLooks := .later }
def LexNumbersUptoCardSaid : Prop := Claim7.holds Tryd.pinned (.plain (OpenSpec.upto lexNumbersSpec)) lexNumbersUptoCard
end Rows
end Go.Proofs.YtjolkombhdibcaaDoor
