/-
  DERIVED. GIVEN WITH THE SEED: THE CARDS: each row of YtjcolfogmmjaoaaDoorRows.lean that lists a variable, with what it lists TIED to the program's text (the seventh form; the later family's looks); each row that meets fmt, with fmt's text TOLD by the authors' own Lean function (tested against real Go, not proved from fmt's source: count such statements apart). THE CARD IS WHAT COUNTS. Prove the row's statement (the work); the ties are given (YtjcolfogmmjaoaaDoorTie.lean); close each card by the builder's one call (the guide's Derived/Test/ToyasCard.lean, 'card_holds'). Laid BY PROGRAM, IN A SANDBOX (cutbox-door.mjs). By AI agents, Wed Nov 11 2026. No macro, syntax, notation, axiom, sorry.
-/
import Derived.Test.YtjcolfogmmjaoaaDoorRows
import GoSem.ClaimSeven
namespace Go.Proofs.YtjcolfogmmjaoaaDoor
namespace Rows

/-- THE TIED CARD OF 'courierlaw09.ValueMusts'. -/
def valueMustsCard : Claim7 := { stood := { row := valueMustsRow, standIns := [], harness := (true, "046e2a4e7a240573299c2b8c54ac7853a4f4c1af2d7068b45e9cf294aaa6bdd3"), looks := true }, kinds := [], alts := [], laidByText := true, laidKinds := [.data, .pinned], laidTests := true, laidLooks := .later }
def ValueMustsCardSaid : Prop := Claim7.holds Tryd.pinned (.plain (OpenSpec.ofChange valueMustsSpec)) valueMustsCard

/-- THE TIED CARD OF 'courierlaw09.ValueSame'. -/
def valueSameCard : Claim7 := { stood := { row := valueSameRow, standIns := [], harness := (true, "046e2a4e7a240573299c2b8c54ac7853a4f4c1af2d7068b45e9cf294aaa6bdd3"), looks := true }, kinds := [], alts := [], laidByText := true, laidKinds := [.data, .pinned], laidTests := true, laidLooks := .later }
def ValueSameCardSaid : Prop := Claim7.holds Tryd.pinned (.plain (OpenSpec.ofChange valueSameSpec)) valueSameCard

/-- THE TIED CARD OF 'courierlaw11.DecodePacked'. -/
def decodePackedCard : Claim7 := { stood := { row := decodePackedRow, standIns := [], harness := (true, "046e2a4e7a240573299c2b8c54ac7853a4f4c1af2d7068b45e9cf294aaa6bdd3"), looks := true }, kinds := [], alts := [], laidByText := true, laidKinds := [.data, .pinned], laidTests := true, laidLooks := .later }
def DecodePackedCardSaid : Prop := Claim7.holds Tryd.pinned (.plain (OpenSpec.ofChange decodePackedSpec)) decodePackedCard

/-- THE SECOND FORM's CARD OF 'courierlaw09.ValueMusts'. -/
def valueMustsUptoCard : Claim7 := { stood := { row := valueMustsUptoRow, standIns := [], harness := (true, "046e2a4e7a240573299c2b8c54ac7853a4f4c1af2d7068b45e9cf294aaa6bdd3"), looks := true }, kinds := [], alts := [], laidByText := true, laidKinds := [.data, .pinned], laidTests := true, laidLooks := .later }
def ValueMustsUptoCardSaid : Prop := Claim7.holds Tryd.pinned (.plain (OpenSpec.upto valueMustsSpec)) valueMustsUptoCard

/-- THE SECOND FORM's CARD OF 'courierlaw09.ValueSame'. -/
def valueSameUptoCard : Claim7 := { stood := { row := valueSameUptoRow, standIns := [], harness := (true, "046e2a4e7a240573299c2b8c54ac7853a4f4c1af2d7068b45e9cf294aaa6bdd3"), looks := true }, kinds := [], alts := [], laidByText := true, laidKinds := [.data, .pinned], laidTests := true, laidLooks := .later }
def ValueSameUptoCardSaid : Prop := Claim7.holds Tryd.pinned (.plain (OpenSpec.upto valueSameSpec)) valueSameUptoCard

/-- THE SECOND FORM's CARD OF 'courierlaw11.DecodePacked'. -/
def decodePackedUptoCard : Claim7 := { stood := { row := decodePackedUptoRow, standIns := [], harness := (true, "046e2a4e7a240573299c2b8c54ac7853a4f4c1af2d7068b45e9cf294aaa6bdd3"), looks := true }, kinds := [], alts := [], laidByText := true, laidKinds := [.data, .pinned], laidTests := true, laidLooks := .later }
def DecodePackedUptoCardSaid : Prop := Claim7.holds Tryd.pinned (.plain (OpenSpec.upto decodePackedSpec)) decodePackedUptoCard
end Rows
end Go.Proofs.YtjcolfogmmjaoaaDoor
