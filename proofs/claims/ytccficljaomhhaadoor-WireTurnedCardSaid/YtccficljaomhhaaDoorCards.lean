/-
  DERIVED. GIVEN WITH THE SEED: THE CARDS: each row of YtccficljaomhhaaDoorRows.lean that lists a variable, with what it lists TIED to the program's text (the seventh form; the later family's looks); each row that meets fmt, with fmt's text TOLD by the authors' own Lean function (tested against real Go, not proved from fmt's source: count such statements apart). THE CARD IS WHAT COUNTS. Prove the row's statement (the work); the ties are given (YtccficljaomhhaaDoorTie.lean); close each card by the builder's one call (the guide's Derived/Test/ToyasCard.lean, 'card_holds'). Laid BY PROGRAM, IN A SANDBOX (cutbox-door.mjs). By AI agents, Wed Nov 11 2026. No macro, syntax, notation, axiom, sorry.
-/
import Derived.Test.YtccficljaomhhaaDoorRows
import GoSem.ClaimSeven
namespace Go.Proofs.YtccficljaomhhaaDoor
namespace Rows

/-- THE TIED CARD OF 'psephoslaw04.WireTurned'. -/
def wireTurnedCard : Claim7 := { stood := { row := wireTurnedRow, standIns := [], harness := (true, "6fab5b4bc25ec56e6fbce952ce59c6c278181ab96037864fd844f637fb1a09a4"), looks := true }, kinds := [], alts := [], laidByText := true, laidKinds := [.handle], laidTests := true, laidLooks := .later }
def WireTurnedCardSaid : Prop := Claim7.holds Tryd.pinned (.plain (OpenSpec.ofChange wireTurnedSpec)) wireTurnedCard

/-- THE TIED CARD OF 'psephoslaw04.WireCut'. -/
def wireCutCard : Claim7 := { stood := { row := wireCutRow, standIns := [], harness := (true, "6fab5b4bc25ec56e6fbce952ce59c6c278181ab96037864fd844f637fb1a09a4"), looks := true }, kinds := [], alts := [], laidByText := true, laidKinds := [.handle], laidTests := true, laidLooks := .later }
def WireCutCardSaid : Prop := Claim7.holds Tryd.pinned (.plain (OpenSpec.ofChange wireCutSpec)) wireCutCard

/-- THE TIED CARD OF 'psephoslaw04.WireMany'. -/
def wireManyCard : Claim7 := { stood := { row := wireManyRow, standIns := [], harness := (true, "6fab5b4bc25ec56e6fbce952ce59c6c278181ab96037864fd844f637fb1a09a4"), looks := true }, kinds := [], alts := [], laidByText := true, laidKinds := [.handle], laidTests := true, laidLooks := .later }
def WireManyCardSaid : Prop := Claim7.holds Tryd.pinned (.plain (OpenSpec.ofChange wireManySpec)) wireManyCard

/-- THE SECOND FORM's CARD OF 'psephoslaw04.WireTurned'. -/
def wireTurnedUptoCard : Claim7 := { stood := { row := wireTurnedUptoRow, standIns := [], harness := (true, "6fab5b4bc25ec56e6fbce952ce59c6c278181ab96037864fd844f637fb1a09a4"), looks := true }, kinds := [], alts := [], laidByText := true, laidKinds := [.handle], laidTests := true, laidLooks := .later }
def WireTurnedUptoCardSaid : Prop := Claim7.holds Tryd.pinned (.plain (OpenSpec.upto wireTurnedSpec)) wireTurnedUptoCard

/-- THE SECOND FORM's CARD OF 'psephoslaw04.WireCut'. -/
def wireCutUptoCard : Claim7 := { stood := { row := wireCutUptoRow, standIns := [], harness := (true, "6fab5b4bc25ec56e6fbce952ce59c6c278181ab96037864fd844f637fb1a09a4"), looks := true }, kinds := [], alts := [], laidByText := true, laidKinds := [.handle], laidTests := true, laidLooks := .later }
def WireCutUptoCardSaid : Prop := Claim7.holds Tryd.pinned (.plain (OpenSpec.upto wireCutSpec)) wireCutUptoCard

/-- THE SECOND FORM's CARD OF 'psephoslaw04.WireMany'. -/
def wireManyUptoCard : Claim7 := { stood := { row := wireManyUptoRow, standIns := [], harness := (true, "6fab5b4bc25ec56e6fbce952ce59c6c278181ab96037864fd844f637fb1a09a4"), looks := true }, kinds := [], alts := [], laidByText := true, laidKinds := [.handle], laidTests := true, laidLooks := .later }
def WireManyUptoCardSaid : Prop := Claim7.holds Tryd.pinned (.plain (OpenSpec.upto wireManySpec)) wireManyUptoCard
end Rows
end Go.Proofs.YtccficljaomhhaaDoor
