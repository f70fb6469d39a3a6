/-
  DERIVED. GIVEN WITH THE SEED: THE CARDS: each row of YtopfjochppdnfaaDoorRows.lean that lists a variable, with what it lists TIED to the program's text (the seventh form; the later family's looks); each row that meets fmt, with fmt's text TOLD by the authors' own Lean function (tested against real Go, not proved from fmt's source: count such statements apart). THE CARD IS WHAT COUNTS. Prove the row's statement (the work); the ties are given (YtopfjochppdnfaaDoorTie.lean); close each card by the builder's one call (the guide's Derived/Test/ToyasCard.lean, 'card_holds'). Laid BY PROGRAM, IN A SANDBOX (cutbox-door.mjs). By AI agents, Wed Nov 11 2026. No macro, syntax, notation, axiom, sorry.
-/
import Derived.Test.YtopfjochppdnfaaDoorRows
import GoSem.ClaimSeven
namespace Go.Proofs.YtopfjochppdnfaaDoor
namespace Rows

/-- THE TIED CARD OF 'padlocklaw12.ClassIs'. -/
def classIsCard : Claim7 := { stood := { row := classIsRow, standIns := [], harness := (true, "bab8513b6af16df8ecbc2e910b0b2e9b558db069f784bddfcf3c09070c27411c"), looks := false }, kinds := [], alts := [], laidByText := true, laidKinds := [.data], laidTests := true, laidLooks := .later }
def ClassIsCardSaid : Prop := Claim7.holds Tryd.pinned (.plain (OpenSpec.ofChange classIsSpec)) classIsCard

/-- THE TIED CARD OF 'padlocklaw12.ClassFine'. -/
def classFineCard : Claim7 := { stood := { row := classFineRow, standIns := [], harness := (true, "bab8513b6af16df8ecbc2e910b0b2e9b558db069f784bddfcf3c09070c27411c"), looks := false }, kinds := [], alts := [], laidByText := true, laidKinds := [.data], laidTests := true, laidLooks := .later }
def ClassFineCardSaid : Prop := Claim7.holds Tryd.pinned (.plain (OpenSpec.ofChange classFineSpec)) classFineCard

/-- THE TIED CARD OF 'padlocklaw12.ClassMore'. -/
def classMoreCard : Claim7 := { stood := { row := classMoreRow, standIns := [], harness := (true, "bab8513b6af16df8ecbc2e910b0b2e9b558db069f784bddfcf3c09070c27411c"), looks := false }, kinds := [], alts := [], laidByText := true, laidKinds := [.data], laidTests := true, laidLooks := .later }
def ClassMoreCardSaid : Prop := Claim7.holds Tryd.pinned (.plain (OpenSpec.ofChange classMoreSpec)) classMoreCard

/-- THE TIED CARD OF 'padlocklaw11.PtsIs'. -/
def ptsIsCard : Claim7 := { stood := { row := ptsIsRow, standIns := [], harness := (true, "bab8513b6af16df8ecbc2e910b0b2e9b558db069f784bddfcf3c09070c27411c"), looks := false }, kinds := [], alts := [], laidByText := true, laidKinds := [.data], laidTests := true, laidLooks := .later }
def PtsIsCardSaid : Prop := Claim7.holds Tryd.pinned (.plain (OpenSpec.ofChange ptsIsSpec)) ptsIsCard

/-- THE TIED CARD OF 'padlocklaw11.PtsHolds'. -/
def ptsHoldsCard : Claim7 := { stood := { row := ptsHoldsRow, standIns := [], harness := (true, "bab8513b6af16df8ecbc2e910b0b2e9b558db069f784bddfcf3c09070c27411c"), looks := false }, kinds := [], alts := [], laidByText := true, laidKinds := [.data], laidTests := true, laidLooks := .later }
def PtsHoldsCardSaid : Prop := Claim7.holds Tryd.pinned (.plain (OpenSpec.ofChange ptsHoldsSpec)) ptsHoldsCard

/-- THE TIED CARD OF 'padlocklaw11.PtsTyped'. -/
def ptsTypedCard : Claim7 := { stood := { row := ptsTypedRow, standIns := [], harness := (true, "bab8513b6af16df8ecbc2e910b0b2e9b558db069f784bddfcf3c09070c27411c"), looks := false }, kinds := [], alts := [], laidByText := true, laidKinds := [.data], laidTests := true, laidLooks := .later }
def PtsTypedCardSaid : Prop := Claim7.holds Tryd.pinned (.plain (OpenSpec.ofChange ptsTypedSpec)) ptsTypedCard

/-- THE TIED CARD OF 'padlocklaw11.PtsEach'. -/
def ptsEachCard : Claim7 := { stood := { row := ptsEachRow, standIns := [], harness := (true, "bab8513b6af16df8ecbc2e910b0b2e9b558db069f784bddfcf3c09070c27411c"), looks := false }, kinds := [], alts := [], laidByText := true, laidKinds := [.data], laidTests := true, laidLooks := .later }
def PtsEachCardSaid : Prop := Claim7.holds Tryd.pinned (.plain (OpenSpec.ofChange ptsEachSpec)) ptsEachCard

/-- THE TIED CARD OF 'padlocklaw11.PtsLess'. -/
def ptsLessCard : Claim7 := { stood := { row := ptsLessRow, standIns := [], harness := (true, "bab8513b6af16df8ecbc2e910b0b2e9b558db069f784bddfcf3c09070c27411c"), looks := false }, kinds := [], alts := [], laidByText := true, laidKinds := [.data], laidTests := true, laidLooks := .later }
def PtsLessCardSaid : Prop := Claim7.holds Tryd.pinned (.plain (OpenSpec.ofChange ptsLessSpec)) ptsLessCard

/-- THE TIED CARD OF 'padlocklaw12.ClassWhole'. -/
def classWholeCard : Claim7 := { stood := { row := classWholeRow, standIns := [], harness := (true, "bab8513b6af16df8ecbc2e910b0b2e9b558db069f784bddfcf3c09070c27411c"), looks := false }, kinds := [], alts := [], laidByText := true, laidKinds := [.data], laidTests := true, laidLooks := .later }
def ClassWholeCardSaid : Prop := Claim7.holds Tryd.pinned (.plain (OpenSpec.ofChange classWholeSpec)) classWholeCard

/-- THE SECOND FORM's CARD OF 'padlocklaw12.ClassIs'. -/
def classIsUptoCard : Claim7 := { stood := { row := classIsUptoRow, standIns := [], harness := (true, "bab8513b6af16df8ecbc2e910b0b2e9b558db069f784bddfcf3c09070c27411c"), looks := false }, kinds := [], alts := [], laidByText := true, laidKinds := [.data], laidTests := true, laidLooks := .later }
def ClassIsUptoCardSaid : Prop := Claim7.holds Tryd.pinned (.plain (OpenSpec.upto classIsSpec)) classIsUptoCard

/-- THE SECOND FORM's CARD OF 'padlocklaw12.ClassFine'. -/
def classFineUptoCard : Claim7 := { stood := { row := classFineUptoRow, standIns := [], harness := (true, "bab8513b6af16df8ecbc2e910b0b2e9b558db069f784bddfcf3c09070c27411c"), looks := false }, kinds := [], alts := [], laidByText := true, laidKinds := [.data], laidTests := true, laidLooks := .later }
def ClassFineUptoCardSaid : Prop := Claim7.holds Tryd.pinned (.plain (OpenSpec.upto classFineSpec)) classFineUptoCard

/-- THE SECOND FORM's CARD OF 'padlocklaw12.ClassMore'. -/
def classMoreUptoCard : Claim7 := { stood := { row := classMoreUptoRow, standIns := [], harness := (true, "bab8513b6af16df8ecbc2e910b0b2e9b558db069f784bddfcf3c09070c27411c"), looks := false }, kinds := [], alts := [], laidByText := true, laidKinds := [.data], laidTests := true, laidLooks := .later }
def ClassMoreUptoCardSaid : Prop := Claim7.holds Tryd.pinned (.plain (OpenSpec.upto classMoreSpec)) classMoreUptoCard

/-- THE SECOND FORM's CARD OF 'padlocklaw11.PtsIs'. -/
def ptsIsUptoCard : Claim7 := { stood := { row := ptsIsUptoRow, standIns := [], harness := (true, "bab8513b6af16df8ecbc2e910b0b2e9b558db069f784bddfcf3c09070c27411c"), looks := false }, kinds := [], alts := [], laidByText := true, laidKinds := [.data], laidTests := true, laidLooks := .later }
def PtsIsUptoCardSaid : Prop := Claim7.holds Tryd.pinned (.plain (OpenSpec.upto ptsIsSpec)) ptsIsUptoCard

/-- THE SECOND FORM's CARD OF 'padlocklaw11.PtsHolds'. -/
def ptsHoldsUptoCard : Claim7 := { stood := { row := ptsHoldsUptoRow, standIns := [], harness := (true, "bab8513b6af16df8ecbc2e910b0b2e9b558db069f784bddfcf3c09070c27411c"), looks := false }, kinds := [], alts := [], laidByText := true, laidKinds := [.data], laidTests := true, laidLooks := .later }
def PtsHoldsUptoCardSaid : Prop := Claim7.holds Tryd.pinned (.plain (OpenSpec.upto ptsHoldsSpec)) ptsHoldsUptoCard

/-- THE SECOND FORM's CARD OF 'padlocklaw11.PtsTyped'. -/
def ptsTypedUptoCard : Claim7 := { stood := { row := ptsTypedUptoRow, standIns := [], harness := (true, "bab8513b6af16df8ecbc2e910b0b2e9b558db069f784bddfcf3c09070c27411c"), looks := false }, kinds := [], alts := [], laidByText := true, laidKinds := [.data], laidTests := true, laidLooks := .later }
def PtsTypedUptoCardSaid : Prop := Claim7.holds Tryd.pinned (.plain (OpenSpec.upto ptsTypedSpec)) ptsTypedUptoCard

/-- THE SECOND FORM's CARD OF 'padlocklaw11.PtsEach'. -/
def ptsEachUptoCard : Claim7 := { stood := { row := ptsEachUptoRow, standIns := [], harness := (true, "bab8513b6af16df8ecbc2e910b0b2e9b558db069f784bddfcf3c09070c27411c"), looks := false }, kinds := [], alts := [], laidByText := true, laidKinds := [.data], laidTests := true, laidLooks := .later }
def PtsEachUptoCardSaid : Prop := Claim7.holds Tryd.pinned (.plain (OpenSpec.upto ptsEachSpec)) ptsEachUptoCard

/-- THE SECOND FORM's CARD OF 'padlocklaw11.PtsLess'. -/
def ptsLessUptoCard : Claim7 := { stood := { row := ptsLessUptoRow, standIns := [], harness := (true, "bab8513b6af16df8ecbc2e910b0b2e9b558db069f784bddfcf3c09070c27411c"), looks := false }, kinds := [], alts := [], laidByText := true, laidKinds := [.data], laidTests := true, laidLooks := .later }
def PtsLessUptoCardSaid : Prop := Claim7.holds Tryd.pinned (.plain (OpenSpec.upto ptsLessSpec)) ptsLessUptoCard

/-- THE SECOND FORM's CARD OF 'padlocklaw12.ClassWhole'. -/
def classWholeUptoCard : Claim7 := { stood := { row := classWholeUptoRow, standIns := [], harness := (true, "bab8513b6af16df8ecbc2e910b0b2e9b558db069f784bddfcf3c09070c27411c"), looks := false }, kinds := [], alts := [], laidByText := true, laidKinds := [.data], laidTests := true, laidLooks := .later }
def ClassWholeUptoCardSaid : Prop := Claim7.holds Tryd.pinned (.plain (OpenSpec.upto classWholeSpec)) classWholeUptoCard
end Rows
end Go.Proofs.YtopfjochppdnfaaDoor
