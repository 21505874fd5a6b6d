/-
  DERIVED. GIVEN WITH THE SEED: THE CARDS: each row of YtnjblinbdimkjaaGreatDoorRows.lean that lists a variable, with what it lists TIED to the program's text (the seventh form; the later family's looks); each row that meets fmt, with fmt's text TOLD by the authors' own Lean function (tested against real Go, not proved from fmt's source: count such statements apart). THE CARD IS WHAT COUNTS. Prove the row's statement (the work); the ties are given (YtnjblinbdimkjaaGreatDoorTie.lean); close each card by the builder's one call (the guide's Derived/Test/ToyasCard.lean, 'card_holds'). Laid BY PROGRAM, IN A SANDBOX (cutbox-door.mjs). By AI agents, Wed Nov 11 2026. No macro, syntax, notation, axiom, sorry.
-/
import Derived.Test.YtnjblinbdimkjaaGreatDoorRows
import GoSem.ClaimSeven
namespace Go.Proofs.YtnjblinbdimkjaaGreatDoor
namespace Rows

/-- THE TIED CARD OF 'bursarlaw18.QuotaFits'. -/
def quotaFitsCard : Claim7 := { stood := { row := quotaFitsRow, standIns := [], harness := (true, "3889e716f27c1244a07abd2d0552628f0a8b455212ecf4008052b8539fce0bff"), looks := false }, kinds := [], alts := [], laidByText := true, laidKinds := [.data, .data, .data, .pinned], laidTests := true, laidLooks := .later }
def QuotaFitsCardSaid : Prop := Claim7.holds Tryz.pinned (.plain (OpenSpec.ofChange quotaFitsSpec)) quotaFitsCard

/-- THE TIED CARD OF 'bursarlaw18.QuotaLess'. -/
def quotaLessCard : Claim7 := { stood := { row := quotaLessRow, standIns := [], harness := (true, "3889e716f27c1244a07abd2d0552628f0a8b455212ecf4008052b8539fce0bff"), looks := false }, kinds := [], alts := [], laidByText := true, laidKinds := [.data, .data, .data, .pinned], laidTests := true, laidLooks := .later }
def QuotaLessCardSaid : Prop := Claim7.holds Tryz.pinned (.plain (OpenSpec.ofChange quotaLessSpec)) quotaLessCard

/-- THE TIED CARD OF 'bursarlaw18.QuotaJust'. -/
def quotaJustCard : Claim7 := { stood := { row := quotaJustRow, standIns := [], harness := (true, "3889e716f27c1244a07abd2d0552628f0a8b455212ecf4008052b8539fce0bff"), looks := false }, kinds := [], alts := [], laidByText := true, laidKinds := [.data, .data, .data, .pinned], laidTests := true, laidLooks := .later }
def QuotaJustCardSaid : Prop := Claim7.holds Tryz.pinned (.plain (OpenSpec.ofChange quotaJustSpec)) quotaJustCard

/-- THE TIED CARD OF 'bursarlaw18.QuotaApart'. -/
def quotaApartCard : Claim7 := { stood := { row := quotaApartRow, standIns := [], harness := (true, "3889e716f27c1244a07abd2d0552628f0a8b455212ecf4008052b8539fce0bff"), looks := false }, kinds := [], alts := [], laidByText := true, laidKinds := [.data, .data, .data, .pinned], laidTests := true, laidLooks := .later }
def QuotaApartCardSaid : Prop := Claim7.holds Tryz.pinned (.plain (OpenSpec.ofChange quotaApartSpec)) quotaApartCard

/-- THE TIED CARD OF 'bursarlaw18.QuotaInPlace'. -/
def quotaInPlaceCard : Claim7 := { stood := { row := quotaInPlaceRow, standIns := [], harness := (true, "3889e716f27c1244a07abd2d0552628f0a8b455212ecf4008052b8539fce0bff"), looks := false }, kinds := [], alts := [], laidByText := true, laidKinds := [.data, .data, .data, .pinned], laidTests := true, laidLooks := .later }
def QuotaInPlaceCardSaid : Prop := Claim7.holds Tryz.pinned (.plain (OpenSpec.ofChange quotaInPlaceSpec)) quotaInPlaceCard

/-- THE TIED CARD OF 'bursarlaw18.QuotaTells'. -/
def quotaTellsCard : Claim7 := { stood := { row := quotaTellsRow, standIns := [], harness := (true, "3889e716f27c1244a07abd2d0552628f0a8b455212ecf4008052b8539fce0bff"), looks := false }, kinds := [], alts := [], laidByText := true, laidKinds := [.data, .data, .data, .pinned], laidTests := true, laidLooks := .later }
def QuotaTellsCardSaid : Prop := Claim7.holds Tryz.pinned (.plain (OpenSpec.ofChange quotaTellsSpec)) quotaTellsCard

/-- THE TIED CARD OF 'bursarlaw18.QuotaLeft'. -/
def quotaLeftCard : Claim7 := { stood := { row := quotaLeftRow, standIns := [], harness := (true, "3889e716f27c1244a07abd2d0552628f0a8b455212ecf4008052b8539fce0bff"), looks := false }, kinds := [], alts := [], laidByText := true, laidKinds := [.data, .data, .data, .pinned], laidTests := true, laidLooks := .later }
def QuotaLeftCardSaid : Prop := Claim7.holds Tryz.pinned (.plain (OpenSpec.ofChange quotaLeftSpec)) quotaLeftCard

/-- THE TIED CARD OF 'bursarlaw18.QuotaKeeps'. -/
def quotaKeepsCard : Claim7 := { stood := { row := quotaKeepsRow, standIns := [], harness := (true, "3889e716f27c1244a07abd2d0552628f0a8b455212ecf4008052b8539fce0bff"), looks := false }, kinds := [], alts := [], laidByText := true, laidKinds := [.data, .data, .data, .pinned], laidTests := true, laidLooks := .later }
def QuotaKeepsCardSaid : Prop := Claim7.holds Tryz.pinned (.plain (OpenSpec.ofChange quotaKeepsSpec)) quotaKeepsCard

/-- THE SECOND FORM's CARD OF 'bursarlaw18.QuotaFits'. -/
def quotaFitsUptoCard : Claim7 := { stood := { row := quotaFitsUptoRow, standIns := [], harness := (true, "3889e716f27c1244a07abd2d0552628f0a8b455212ecf4008052b8539fce0bff"), looks := false }, kinds := [], alts := [], laidByText := true, laidKinds := [.data, .data, .data, .pinned], laidTests := true, laidLooks := .later }
def QuotaFitsUptoCardSaid : Prop := Claim7.holds Tryz.pinned (.plain (OpenSpec.upto quotaFitsSpec)) quotaFitsUptoCard

/-- THE SECOND FORM's CARD OF 'bursarlaw18.QuotaLess'. -/
def quotaLessUptoCard : Claim7 := { stood := { row := quotaLessUptoRow, standIns := [], harness := (true, "3889e716f27c1244a07abd2d0552628f0a8b455212ecf4008052b8539fce0bff"), looks := false }, kinds := [], alts := [], laidByText := true, laidKinds := [.data, .data, .data, .pinned], laidTests := true, laidLooks := .later }
def QuotaLessUptoCardSaid : Prop := Claim7.holds Tryz.pinned (.plain (OpenSpec.upto quotaLessSpec)) quotaLessUptoCard

/-- THE SECOND FORM's CARD OF 'bursarlaw18.QuotaJust'. -/
def quotaJustUptoCard : Claim7 := { stood := { row := quotaJustUptoRow, standIns := [], harness := (true, "3889e716f27c1244a07abd2d0552628f0a8b455212ecf4008052b8539fce0bff"), looks := false }, kinds := [], alts := [], laidByText := true, laidKinds := [.data, .data, .data, .pinned], laidTests := true, laidLooks := .later }
def QuotaJustUptoCardSaid : Prop := Claim7.holds Tryz.pinned (.plain (OpenSpec.upto quotaJustSpec)) quotaJustUptoCard

/-- THE SECOND FORM's CARD OF 'bursarlaw18.QuotaApart'. -/
def quotaApartUptoCard : Claim7 := { stood := { row := quotaApartUptoRow, standIns := [], harness := (true, "3889e716f27c1244a07abd2d0552628f0a8b455212ecf4008052b8539fce0bff"), looks := false }, kinds := [], alts := [], laidByText := true, laidKinds := [.data, .data, .data, .pinned], laidTests := true, laidLooks := .later }
def QuotaApartUptoCardSaid : Prop := Claim7.holds Tryz.pinned (.plain (OpenSpec.upto quotaApartSpec)) quotaApartUptoCard

/-- THE SECOND FORM's CARD OF 'bursarlaw18.QuotaInPlace'. -/
def quotaInPlaceUptoCard : Claim7 := { stood := { row := quotaInPlaceUptoRow, standIns := [], harness := (true, "3889e716f27c1244a07abd2d0552628f0a8b455212ecf4008052b8539fce0bff"), looks := false }, kinds := [], alts := [], laidByText := true, laidKinds := [.data, .data, .data, .pinned], laidTests := true, laidLooks := .later }
def QuotaInPlaceUptoCardSaid : Prop := Claim7.holds Tryz.pinned (.plain (OpenSpec.upto quotaInPlaceSpec)) quotaInPlaceUptoCard

/-- THE SECOND FORM's CARD OF 'bursarlaw18.QuotaTells'. -/
def quotaTellsUptoCard : Claim7 := { stood := { row := quotaTellsUptoRow, standIns := [], harness := (true, "3889e716f27c1244a07abd2d0552628f0a8b455212ecf4008052b8539fce0bff"), looks := false }, kinds := [], alts := [], laidByText := true, laidKinds := [.data, .data, .data, .pinned], laidTests := true, laidLooks := .later }
def QuotaTellsUptoCardSaid : Prop := Claim7.holds Tryz.pinned (.plain (OpenSpec.upto quotaTellsSpec)) quotaTellsUptoCard

/-- THE SECOND FORM's CARD OF 'bursarlaw18.QuotaLeft'. -/
def quotaLeftUptoCard : Claim7 := { stood := { row := quotaLeftUptoRow, standIns := [], harness := (true, "3889e716f27c1244a07abd2d0552628f0a8b455212ecf4008052b8539fce0bff"), looks := false }, kinds := [], alts := [], laidByText := true, laidKinds := [.data, .data, .data, .pinned], laidTests := true, laidLooks := .later }
def QuotaLeftUptoCardSaid : Prop := Claim7.holds Tryz.pinned (.plain (OpenSpec.upto quotaLeftSpec)) quotaLeftUptoCard

/-- THE SECOND FORM's CARD OF 'bursarlaw18.QuotaKeeps'. -/
def quotaKeepsUptoCard : Claim7 := { stood := { row := quotaKeepsUptoRow, standIns := [], harness := (true, "3889e716f27c1244a07abd2d0552628f0a8b455212ecf4008052b8539fce0bff"), looks := false }, kinds := [], alts := [], laidByText := true, laidKinds := [.data, .data, .data, .pinned], laidTests := true, laidLooks := .later }
def QuotaKeepsUptoCardSaid : Prop := Claim7.holds Tryz.pinned (.plain (OpenSpec.upto quotaKeepsSpec)) quotaKeepsUptoCard
end Rows
end Go.Proofs.YtnjblinbdimkjaaGreatDoor
