/-
  DERIVED. GIVEN WITH THE SEED: THE CARDS: each row of YtjlogcfggfmacaaDoorRows.lean that lists a variable, with what it lists TIED to the program's text (the seventh form; the later family's looks); each row that meets fmt, with fmt's text TOLD by the authors' own Lean function (tested against real Go, not proved from fmt's source: count such statements apart). THE CARD IS WHAT COUNTS. Prove the row's statement (the work); the ties are given (YtjlogcfggfmacaaDoorTie.lean); close each card by the builder's one call (the guide's Derived/Test/ToyasCard.lean, 'card_holds'). Laid BY PROGRAM, IN A SANDBOX (cutbox-door.mjs). By AI agents, Wed Nov 11 2026. No macro, syntax, notation, axiom, sorry.
-/
import Derived.Test.YtjlogcfggfmacaaDoorRows
import GoSem.ClaimSeven
namespace Go.Proofs.YtjlogcfggfmacaaDoor
namespace Rows

/-- THE TIED CARD OF 'padlocklaw16.PlanLimits'. -/
def planLimitsCard : Claim7 := { stood := { row := planLimitsRow, standIns := [], harness := (true, "e06adaeba8af371efcabf8b8e2ef762563ac1f7fb290fa986a9bcd4a7697c663"), looks := false }, kinds := [], alts := [], laidByText := true, laidKinds := [.data], laidTests := true, laidLooks := .later }
def PlanLimitsCardSaid : Prop := Claim7.holds Tryd.pinned (.plain (OpenSpec.ofChange planLimitsSpec)) planLimitsCard

/-- THE TIED CARD OF 'padlocklaw16.PlanAll'. -/
def planAllCard : Claim7 := { stood := { row := planAllRow, standIns := [], harness := (true, "e06adaeba8af371efcabf8b8e2ef762563ac1f7fb290fa986a9bcd4a7697c663"), looks := false }, kinds := [], alts := [], laidByText := true, laidKinds := [.data], laidTests := true, laidLooks := .later }
def PlanAllCardSaid : Prop := Claim7.holds Tryd.pinned (.plain (OpenSpec.ofChange planAllSpec)) planAllCard

/-- THE SECOND FORM's CARD OF 'padlocklaw16.PlanLimits'. -/
def planLimitsUptoCard : Claim7 := { stood := { row := planLimitsUptoRow, standIns := [], harness := (true, "e06adaeba8af371efcabf8b8e2ef762563ac1f7fb290fa986a9bcd4a7697c663"), looks := false }, kinds := [], alts := [], laidByText := true, laidKinds := [.data], laidTests := true, laidLooks := .later }
def PlanLimitsUptoCardSaid : Prop := Claim7.holds Tryd.pinned (.plain (OpenSpec.upto planLimitsSpec)) planLimitsUptoCard

/-- THE SECOND FORM's CARD OF 'padlocklaw16.PlanAll'. -/
def planAllUptoCard : Claim7 := { stood := { row := planAllUptoRow, standIns := [], harness := (true, "e06adaeba8af371efcabf8b8e2ef762563ac1f7fb290fa986a9bcd4a7697c663"), looks := false }, kinds := [], alts := [], laidByText := true, laidKinds := [.data], laidTests := true, laidLooks := .later }
def PlanAllUptoCardSaid : Prop := Claim7.holds Tryd.pinned (.plain (OpenSpec.upto planAllSpec)) planAllUptoCard
end Rows
end Go.Proofs.YtjlogcfggfmacaaDoor
