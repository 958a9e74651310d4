/-
  DERIVED. GIVEN WITH THE SEED: THE CARDS: each row of YtjcolfogmmjaoaaGreatDoorRows.lean that lists a variable, with what it lists TIED to the program's text (the seventh form; the later family's looks); each row that meets fmt, with fmt's text TOLD by the authors' own Lean function (tested against real Go, not proved from fmt's source: count such statements apart). THE CARD IS WHAT COUNTS. Prove the row's statement (the work); the ties are given (YtjcolfogmmjaoaaGreatDoorTie.lean); close each card by the builder's one call (the guide's Derived/Test/ToyasCard.lean, 'card_holds'). Laid BY PROGRAM, IN A SANDBOX (cutbox-door.mjs). By AI agents, Wed Nov 11 2026. No macro, syntax, notation, axiom, sorry.
-/
import Derived.Test.YtjcolfogmmjaoaaGreatDoorRows
import GoSem.ClaimSeven
namespace Go.Proofs.YtjcolfogmmjaoaaGreatDoor
namespace Rows

/-- THE TIED CARD OF 'courierlaw11.DecodeBytes'. -/
def decodeBytesCard : Claim7 := { stood := { row := decodeBytesRow, standIns := [], harness := (true, "83fc62d92b62d0e2b8b2a6ee3fd166ed729b1033dcbb2d896834e1fa24caec6d"), looks := true }, kinds := [], alts := [], laidByText := true, laidKinds := [.data, .pinned], laidTests := true, laidLooks := .later }
def DecodeBytesCardSaid : Prop := Claim7.holds Tryz.pinned (.plain (OpenSpec.ofChange decodeBytesSpec)) decodeBytesCard

/-- THE TIED CARD OF 'courierlaw10.EncodeNormal'. -/
def encodeNormalCard : Claim7 := { stood := { row := encodeNormalRow, standIns := [], harness := (true, "83fc62d92b62d0e2b8b2a6ee3fd166ed729b1033dcbb2d896834e1fa24caec6d"), looks := true }, kinds := [], alts := [], laidByText := true, laidKinds := [.data, .pinned], laidTests := true, laidLooks := .later }
def EncodeNormalCardSaid : Prop := Claim7.holds Tryz.pinned (.plain (OpenSpec.ofChange encodeNormalSpec)) encodeNormalCard

/-- THE TIED CARD OF 'courierlaw10.EncodeFields'. -/
def encodeFieldsCard : Claim7 := { stood := { row := encodeFieldsRow, standIns := [], harness := (true, "83fc62d92b62d0e2b8b2a6ee3fd166ed729b1033dcbb2d896834e1fa24caec6d"), looks := true }, kinds := [], alts := [], laidByText := true, laidKinds := [.data, .pinned], laidTests := true, laidLooks := .later }
def EncodeFieldsCardSaid : Prop := Claim7.holds Tryz.pinned (.plain (OpenSpec.ofChange encodeFieldsSpec)) encodeFieldsCard

/-- THE TIED CARD OF 'courierlaw10.EncodeBytes'. -/
def encodeBytesCard : Claim7 := { stood := { row := encodeBytesRow, standIns := [], harness := (true, "83fc62d92b62d0e2b8b2a6ee3fd166ed729b1033dcbb2d896834e1fa24caec6d"), looks := true }, kinds := [], alts := [], laidByText := true, laidKinds := [.data, .pinned], laidTests := true, laidLooks := .later }
def EncodeBytesCardSaid : Prop := Claim7.holds Tryz.pinned (.plain (OpenSpec.ofChange encodeBytesSpec)) encodeBytesCard

/-- THE TIED CARD OF 'courierlaw10.EncodeEmpty'. -/
def encodeEmptyCard : Claim7 := { stood := { row := encodeEmptyRow, standIns := [], harness := (true, "83fc62d92b62d0e2b8b2a6ee3fd166ed729b1033dcbb2d896834e1fa24caec6d"), looks := true }, kinds := [], alts := [], laidByText := true, laidKinds := [.data, .pinned], laidTests := true, laidLooks := .later }
def EncodeEmptyCardSaid : Prop := Claim7.holds Tryz.pinned (.plain (OpenSpec.ofChange encodeEmptySpec)) encodeEmptyCard

/-- THE TIED CARD OF 'courierlaw11.DecodeTurned'. -/
def decodeTurnedCard : Claim7 := { stood := { row := decodeTurnedRow, standIns := [], harness := (true, "83fc62d92b62d0e2b8b2a6ee3fd166ed729b1033dcbb2d896834e1fa24caec6d"), looks := true }, kinds := [], alts := [], laidByText := true, laidKinds := [.data, .pinned], laidTests := true, laidLooks := .later }
def DecodeTurnedCardSaid : Prop := Claim7.holds Tryz.pinned (.plain (OpenSpec.ofChange decodeTurnedSpec)) decodeTurnedCard

/-- THE TIED CARD OF 'courierlaw11.DecodeUnknown'. -/
def decodeUnknownCard : Claim7 := { stood := { row := decodeUnknownRow, standIns := [], harness := (true, "83fc62d92b62d0e2b8b2a6ee3fd166ed729b1033dcbb2d896834e1fa24caec6d"), looks := true }, kinds := [], alts := [], laidByText := true, laidKinds := [.data, .pinned], laidTests := true, laidLooks := .later }
def DecodeUnknownCardSaid : Prop := Claim7.holds Tryz.pinned (.plain (OpenSpec.ofChange decodeUnknownSpec)) decodeUnknownCard

/-- THE TIED CARD OF 'courierlaw11.DecodeJoins'. -/
def decodeJoinsCard : Claim7 := { stood := { row := decodeJoinsRow, standIns := [], harness := (true, "83fc62d92b62d0e2b8b2a6ee3fd166ed729b1033dcbb2d896834e1fa24caec6d"), looks := true }, kinds := [], alts := [], laidByText := true, laidKinds := [.data, .pinned], laidTests := true, laidLooks := .later }
def DecodeJoinsCardSaid : Prop := Claim7.holds Tryz.pinned (.plain (OpenSpec.ofChange decodeJoinsSpec)) decodeJoinsCard

/-- THE TIED CARD OF 'courierlaw11.DecodeFits'. -/
def decodeFitsCard : Claim7 := { stood := { row := decodeFitsRow, standIns := [], harness := (true, "83fc62d92b62d0e2b8b2a6ee3fd166ed729b1033dcbb2d896834e1fa24caec6d"), looks := true }, kinds := [], alts := [], laidByText := true, laidKinds := [.data, .pinned], laidTests := true, laidLooks := .later }
def DecodeFitsCardSaid : Prop := Claim7.holds Tryz.pinned (.plain (OpenSpec.ofChange decodeFitsSpec)) decodeFitsCard

/-- THE TIED CARD OF 'courierlaw11.DecodeBack'. -/
def decodeBackCard : Claim7 := { stood := { row := decodeBackRow, standIns := [], harness := (true, "83fc62d92b62d0e2b8b2a6ee3fd166ed729b1033dcbb2d896834e1fa24caec6d"), looks := true }, kinds := [], alts := [], laidByText := true, laidKinds := [.data, .pinned], laidTests := true, laidLooks := .later }
def DecodeBackCardSaid : Prop := Claim7.holds Tryz.pinned (.plain (OpenSpec.ofChange decodeBackSpec)) decodeBackCard

/-- THE SECOND FORM's CARD OF 'courierlaw11.DecodeBytes'. -/
def decodeBytesUptoCard : Claim7 := { stood := { row := decodeBytesUptoRow, standIns := [], harness := (true, "83fc62d92b62d0e2b8b2a6ee3fd166ed729b1033dcbb2d896834e1fa24caec6d"), looks := true }, kinds := [], alts := [], laidByText := true, laidKinds := [.data, .pinned], laidTests := true, laidLooks := .later }
def DecodeBytesUptoCardSaid : Prop := Claim7.holds Tryz.pinned (.plain (OpenSpec.upto decodeBytesSpec)) decodeBytesUptoCard

/-- THE SECOND FORM's CARD OF 'courierlaw10.EncodeNormal'. -/
def encodeNormalUptoCard : Claim7 := { stood := { row := encodeNormalUptoRow, standIns := [], harness := (true, "83fc62d92b62d0e2b8b2a6ee3fd166ed729b1033dcbb2d896834e1fa24caec6d"), looks := true }, kinds := [], alts := [], laidByText := true, laidKinds := [.data, .pinned], laidTests := true, laidLooks := .later }
def EncodeNormalUptoCardSaid : Prop := Claim7.holds Tryz.pinned (.plain (OpenSpec.upto encodeNormalSpec)) encodeNormalUptoCard

/-- THE SECOND FORM's CARD OF 'courierlaw10.EncodeFields'. -/
def encodeFieldsUptoCard : Claim7 := { stood := { row := encodeFieldsUptoRow, standIns := [], harness := (true, "83fc62d92b62d0e2b8b2a6ee3fd166ed729b1033dcbb2d896834e1fa24caec6d"), looks := true }, kinds := [], alts := [], laidByText := true, laidKinds := [.data, .pinned], laidTests := true, laidLooks := .later }
def EncodeFieldsUptoCardSaid : Prop := Claim7.holds Tryz.pinned (.plain (OpenSpec.upto encodeFieldsSpec)) encodeFieldsUptoCard

/-- THE SECOND FORM's CARD OF 'courierlaw10.EncodeBytes'. -/
def encodeBytesUptoCard : Claim7 := { stood := { row := encodeBytesUptoRow, standIns := [], harness := (true, "83fc62d92b62d0e2b8b2a6ee3fd166ed729b1033dcbb2d896834e1fa24caec6d"), looks := true }, kinds := [], alts := [], laidByText := true, laidKinds := [.data, .pinned], laidTests := true, laidLooks := .later }
def EncodeBytesUptoCardSaid : Prop := Claim7.holds Tryz.pinned (.plain (OpenSpec.upto encodeBytesSpec)) encodeBytesUptoCard

/-- THE SECOND FORM's CARD OF 'courierlaw10.EncodeEmpty'. -/
def encodeEmptyUptoCard : Claim7 := { stood := { row := encodeEmptyUptoRow, standIns := [], harness := (true, "83fc62d92b62d0e2b8b2a6ee3fd166ed729b1033dcbb2d896834e1fa24caec6d"), looks := true }, kinds := [], alts := [], laidByText := true, laidKinds := [.data, .pinned], laidTests := true, laidLooks := .later }
def EncodeEmptyUptoCardSaid : Prop := Claim7.holds Tryz.pinned (.plain (OpenSpec.upto encodeEmptySpec)) encodeEmptyUptoCard

/-- THE SECOND FORM's CARD OF 'courierlaw11.DecodeTurned'. -/
def decodeTurnedUptoCard : Claim7 := { stood := { row := decodeTurnedUptoRow, standIns := [], harness := (true, "83fc62d92b62d0e2b8b2a6ee3fd166ed729b1033dcbb2d896834e1fa24caec6d"), looks := true }, kinds := [], alts := [], laidByText := true, laidKinds := [.data, .pinned], laidTests := true, laidLooks := .later }
def DecodeTurnedUptoCardSaid : Prop := Claim7.holds Tryz.pinned (.plain (OpenSpec.upto decodeTurnedSpec)) decodeTurnedUptoCard

/-- THE SECOND FORM's CARD OF 'courierlaw11.DecodeUnknown'. -/
def decodeUnknownUptoCard : Claim7 := { stood := { row := decodeUnknownUptoRow, standIns := [], harness := (true, "83fc62d92b62d0e2b8b2a6ee3fd166ed729b1033dcbb2d896834e1fa24caec6d"), looks := true }, kinds := [], alts := [], laidByText := true, laidKinds := [.data, .pinned], laidTests := true, laidLooks := .later }
def DecodeUnknownUptoCardSaid : Prop := Claim7.holds Tryz.pinned (.plain (OpenSpec.upto decodeUnknownSpec)) decodeUnknownUptoCard

/-- THE SECOND FORM's CARD OF 'courierlaw11.DecodeJoins'. -/
def decodeJoinsUptoCard : Claim7 := { stood := { row := decodeJoinsUptoRow, standIns := [], harness := (true, "83fc62d92b62d0e2b8b2a6ee3fd166ed729b1033dcbb2d896834e1fa24caec6d"), looks := true }, kinds := [], alts := [], laidByText := true, laidKinds := [.data, .pinned], laidTests := true, laidLooks := .later }
def DecodeJoinsUptoCardSaid : Prop := Claim7.holds Tryz.pinned (.plain (OpenSpec.upto decodeJoinsSpec)) decodeJoinsUptoCard

/-- THE SECOND FORM's CARD OF 'courierlaw11.DecodeFits'. -/
def decodeFitsUptoCard : Claim7 := { stood := { row := decodeFitsUptoRow, standIns := [], harness := (true, "83fc62d92b62d0e2b8b2a6ee3fd166ed729b1033dcbb2d896834e1fa24caec6d"), looks := true }, kinds := [], alts := [], laidByText := true, laidKinds := [.data, .pinned], laidTests := true, laidLooks := .later }
def DecodeFitsUptoCardSaid : Prop := Claim7.holds Tryz.pinned (.plain (OpenSpec.upto decodeFitsSpec)) decodeFitsUptoCard

/-- THE SECOND FORM's CARD OF 'courierlaw11.DecodeBack'. -/
def decodeBackUptoCard : Claim7 := { stood := { row := decodeBackUptoRow, standIns := [], harness := (true, "83fc62d92b62d0e2b8b2a6ee3fd166ed729b1033dcbb2d896834e1fa24caec6d"), looks := true }, kinds := [], alts := [], laidByText := true, laidKinds := [.data, .pinned], laidTests := true, laidLooks := .later }
def DecodeBackUptoCardSaid : Prop := Claim7.holds Tryz.pinned (.plain (OpenSpec.upto decodeBackSpec)) decodeBackUptoCard
end Rows
end Go.Proofs.YtjcolfogmmjaoaaGreatDoor
