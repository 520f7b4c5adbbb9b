/-
  DERIVED. GIVEN WITH THE SEED: THE CARDS: each row of YtcbmjmphicfgpaaGreatDoorRows.lean that lists a variable, with what it lists TIED to the program's text (the seventh form; the later family's looks); each row that meets fmt, with fmt's text TOLD by the authors' own Lean function (tested against real Go, not proved from fmt's source: count such statements apart). THE CARD IS WHAT COUNTS. Prove the row's statement (the work); the ties are given (YtcbmjmphicfgpaaGreatDoorTie.lean); close each card by the builder's one call (the guide's Derived/Test/ToyasCard.lean, 'card_holds'). Laid BY PROGRAM, IN A SANDBOX (cutbox-door.mjs). By AI agents, Wed Nov 11 2026. No macro, syntax, notation, axiom, sorry.
-/
import Derived.Test.YtcbmjmphicfgpaaGreatDoorRows
import GoSem.ClaimSeven
namespace Go.Proofs.YtcbmjmphicfgpaaGreatDoor
namespace Rows

/-- THE TIED CARD OF 'lanyardlaw20.TalPlaces'. -/
def talPlacesCard : Claim7 := { stood := { row := talPlacesRow, standIns := [], harness := (true, "27e157e21a8ee1aaf58bc48fcefaae58e430caff08cbf1b90279adaaaca91353"), looks := true }, kinds := [], alts := [], laidByText := true, laidKinds := [.data, .pinned], laidTests := true, laidLooks := .later }
def TalPlacesCardSaid : Prop := Claim7.holds Tryz.pinned (.plain (OpenSpec.ofChange talPlacesSpec)) talPlacesCard

/-- THE TIED CARD OF 'lanyardlaw20.TalTexts'. -/
def talTextsCard : Claim7 := { stood := { row := talTextsRow, standIns := [], harness := (true, "27e157e21a8ee1aaf58bc48fcefaae58e430caff08cbf1b90279adaaaca91353"), looks := true }, kinds := [], alts := [], laidByText := true, laidKinds := [.data, .pinned], laidTests := true, laidLooks := .later }
def TalTextsCardSaid : Prop := Claim7.holds Tryz.pinned (.plain (OpenSpec.ofChange talTextsSpec)) talTextsCard

/-- THE TIED CARD OF 'lanyardlaw20.TalBack'. -/
def talBackCard : Claim7 := { stood := { row := talBackRow, standIns := [], harness := (true, "27e157e21a8ee1aaf58bc48fcefaae58e430caff08cbf1b90279adaaaca91353"), looks := true }, kinds := [], alts := [], laidByText := true, laidKinds := [.data, .pinned], laidTests := true, laidLooks := .later }
def TalBackCardSaid : Prop := Claim7.holds Tryz.pinned (.plain (OpenSpec.ofChange talBackSpec)) talBackCard

/-- THE TIED CARD OF 'lanyardlaw20.TalJoined'. -/
def talJoinedCard : Claim7 := { stood := { row := talJoinedRow, standIns := [], harness := (true, "27e157e21a8ee1aaf58bc48fcefaae58e430caff08cbf1b90279adaaaca91353"), looks := true }, kinds := [], alts := [], laidByText := true, laidKinds := [.data, .pinned], laidTests := true, laidLooks := .later }
def TalJoinedCardSaid : Prop := Claim7.holds Tryz.pinned (.plain (OpenSpec.ofChange talJoinedSpec)) talJoinedCard

/-- THE SECOND FORM's CARD OF 'lanyardlaw20.TalPlaces'. -/
def talPlacesUptoCard : Claim7 := { stood := { row := talPlacesUptoRow, standIns := [], harness := (true, "27e157e21a8ee1aaf58bc48fcefaae58e430caff08cbf1b90279adaaaca91353"), looks := true }, kinds := [], alts := [], laidByText := true, laidKinds := [.data, .pinned], laidTests := true, laidLooks := .later }
def TalPlacesUptoCardSaid : Prop := Claim7.holds Tryz.pinned (.plain (OpenSpec.upto talPlacesSpec)) talPlacesUptoCard

/-- THE SECOND FORM's CARD OF 'lanyardlaw20.TalTexts'. -/
def talTextsUptoCard : Claim7 := { stood := { row := talTextsUptoRow, standIns := [], harness := (true, "27e157e21a8ee1aaf58bc48fcefaae58e430caff08cbf1b90279adaaaca91353"), looks := true }, kinds := [], alts := [], laidByText := true, laidKinds := [.data, .pinned], laidTests := true, laidLooks := .later }
def TalTextsUptoCardSaid : Prop := Claim7.holds Tryz.pinned (.plain (OpenSpec.upto talTextsSpec)) talTextsUptoCard

/-- THE SECOND FORM's CARD OF 'lanyardlaw20.TalBack'. -/
def talBackUptoCard : Claim7 := { stood := { row := talBackUptoRow, standIns := [], harness := (true, "27e157e21a8ee1aaf58bc48fcefaae58e430caff08cbf1b90279adaaaca91353"), looks := true }, kinds := [], alts := [], laidByText := true, laidKinds := [.data, .pinned], laidTests := true, laidLooks := .later }
def TalBackUptoCardSaid : Prop := Claim7.holds Tryz.pinned (.plain (OpenSpec.upto talBackSpec)) talBackUptoCard

/-- THE SECOND FORM's CARD OF 'lanyardlaw20.TalJoined'. -/
def talJoinedUptoCard : Claim7 := { stood := { row := talJoinedUptoRow, standIns := [], harness := (true, "27e157e21a8ee1aaf58bc48fcefaae58e430caff08cbf1b90279adaaaca91353"), looks := true }, kinds := [], alts := [], laidByText := true, laidKinds := [.data, .pinned], laidTests := true, laidLooks := .later }
def TalJoinedUptoCardSaid : Prop := Claim7.holds Tryz.pinned (.plain (OpenSpec.upto talJoinedSpec)) talJoinedUptoCard
end Rows
end Go.Proofs.YtcbmjmphicfgpaaGreatDoor
