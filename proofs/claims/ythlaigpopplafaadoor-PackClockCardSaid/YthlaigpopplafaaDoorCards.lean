/-
  DERIVED. GIVEN WITH THE SEED: THE CARDS: each row of YthlaigpopplafaaDoorRows.lean that lists a variable, with what it lists TIED to the program's text (the seventh form; the later family's looks); each row that meets fmt, with fmt's text TOLD by the authors' own Lean function (tested against real Go, not proved from fmt's source: count such statements apart). THE CARD IS WHAT COUNTS. Prove the row's statement (the work); the ties are given (YthlaigpopplafaaDoorTie.lean); close each card by the builder's one call (the guide's Derived/Test/ToyasCard.lean, 'card_holds'). Laid BY PROGRAM, IN A SANDBOX (cutbox-door.mjs). By AI agents, Wed Nov 11 2026. No macro, syntax, notation, axiom, sorry.
-/
import Derived.Test.YthlaigpopplafaaDoorRows
import GoSem.ClaimSeven
namespace Go.Proofs.YthlaigpopplafaaDoor
namespace Rows

/-- THE TIED CARD OF 'tollerlaw16.PackAsks'. -/
def packAsksCard : Claim7 := { stood := { row := packAsksRow, standIns := [], harness := (true, "ba96b02a7052645b10ed3336affb41c8edeb3d96732d6e86b498000427e12b1e"), looks := false }, kinds := [], alts := [], laidByText := true, laidKinds := [.sentinel], laidTests := true, laidLooks := .later }
def PackAsksCardSaid : Prop := Claim7.holds Tryd.pinned (.plain (OpenSpec.ofChange packAsksSpec)) packAsksCard

/-- THE TIED CARD OF 'tollerlaw16.PackBack'. -/
def packBackCard : Claim7 := { stood := { row := packBackRow, standIns := [], harness := (true, "ba96b02a7052645b10ed3336affb41c8edeb3d96732d6e86b498000427e12b1e"), looks := false }, kinds := [], alts := [], laidByText := true, laidKinds := [.sentinel], laidTests := true, laidLooks := .later }
def PackBackCardSaid : Prop := Claim7.holds Tryd.pinned (.plain (OpenSpec.ofChange packBackSpec)) packBackCard

/-- THE TIED CARD OF 'tollerlaw16.PackShort'. -/
def packShortCard : Claim7 := { stood := { row := packShortRow, standIns := [], harness := (true, "ba96b02a7052645b10ed3336affb41c8edeb3d96732d6e86b498000427e12b1e"), looks := false }, kinds := [], alts := [], laidByText := true, laidKinds := [.sentinel], laidTests := true, laidLooks := .later }
def PackShortCardSaid : Prop := Claim7.holds Tryd.pinned (.plain (OpenSpec.ofChange packShortSpec)) packShortCard

/-- THE TIED CARD OF 'tollerlaw16.PackOrder'. -/
def packOrderCard : Claim7 := { stood := { row := packOrderRow, standIns := [], harness := (true, "ba96b02a7052645b10ed3336affb41c8edeb3d96732d6e86b498000427e12b1e"), looks := false }, kinds := [], alts := [], laidByText := true, laidKinds := [.sentinel], laidTests := true, laidLooks := .later }
def PackOrderCardSaid : Prop := Claim7.holds Tryd.pinned (.plain (OpenSpec.ofChange packOrderSpec)) packOrderCard

/-- THE TIED CARD OF 'tollerlaw16.PackSize'. -/
def packSizeCard : Claim7 := { stood := { row := packSizeRow, standIns := [], harness := (true, "ba96b02a7052645b10ed3336affb41c8edeb3d96732d6e86b498000427e12b1e"), looks := false }, kinds := [], alts := [], laidByText := true, laidKinds := [.sentinel], laidTests := true, laidLooks := .later }
def PackSizeCardSaid : Prop := Claim7.holds Tryd.pinned (.plain (OpenSpec.ofChange packSizeSpec)) packSizeCard

/-- THE TIED CARD OF 'tollerlaw16.PackClock'. -/
def packClockCard : Claim7 := { stood := { row := packClockRow, standIns := [], harness := (true, "ba96b02a7052645b10ed3336affb41c8edeb3d96732d6e86b498000427e12b1e"), looks := false }, kinds := [], alts := [], laidByText := true, laidKinds := [.sentinel], laidTests := true, laidLooks := .later }
def PackClockCardSaid : Prop := Claim7.holds Tryd.pinned (.plain (OpenSpec.ofChange packClockSpec)) packClockCard

/-- THE SECOND FORM's CARD OF 'tollerlaw16.PackAsks'. -/
def packAsksUptoCard : Claim7 := { stood := { row := packAsksUptoRow, standIns := [], harness := (true, "ba96b02a7052645b10ed3336affb41c8edeb3d96732d6e86b498000427e12b1e"), looks := false }, kinds := [], alts := [], laidByText := true, laidKinds := [.sentinel], laidTests := true, laidLooks := .later }
def PackAsksUptoCardSaid : Prop := Claim7.holds Tryd.pinned (.plain (OpenSpec.upto packAsksSpec)) packAsksUptoCard

/-- THE SECOND FORM's CARD OF 'tollerlaw16.PackBack'. -/
def packBackUptoCard : Claim7 := { stood := { row := packBackUptoRow, standIns := [], harness := (true, "ba96b02a7052645b10ed3336affb41c8edeb3d96732d6e86b498000427e12b1e"), looks := false }, kinds := [], alts := [], laidByText := true, laidKinds := [.sentinel], laidTests := true, laidLooks := .later }
def PackBackUptoCardSaid : Prop := Claim7.holds Tryd.pinned (.plain (OpenSpec.upto packBackSpec)) packBackUptoCard

/-- THE SECOND FORM's CARD OF 'tollerlaw16.PackShort'. -/
def packShortUptoCard : Claim7 := { stood := { row := packShortUptoRow, standIns := [], harness := (true, "ba96b02a7052645b10ed3336affb41c8edeb3d96732d6e86b498000427e12b1e"), looks := false }, kinds := [], alts := [], laidByText := true, laidKinds := [.sentinel], laidTests := true, laidLooks := .later }
def PackShortUptoCardSaid : Prop := Claim7.holds Tryd.pinned (.plain (OpenSpec.upto packShortSpec)) packShortUptoCard

/-- THE SECOND FORM's CARD OF 'tollerlaw16.PackOrder'. -/
def packOrderUptoCard : Claim7 := { stood := { row := packOrderUptoRow, standIns := [], harness := (true, "ba96b02a7052645b10ed3336affb41c8edeb3d96732d6e86b498000427e12b1e"), looks := false }, kinds := [], alts := [], laidByText := true, laidKinds := [.sentinel], laidTests := true, laidLooks := .later }
def PackOrderUptoCardSaid : Prop := Claim7.holds Tryd.pinned (.plain (OpenSpec.upto packOrderSpec)) packOrderUptoCard

/-- THE SECOND FORM's CARD OF 'tollerlaw16.PackSize'. -/
def packSizeUptoCard : Claim7 := { stood := { row := packSizeUptoRow, standIns := [], harness := (true, "ba96b02a7052645b10ed3336affb41c8edeb3d96732d6e86b498000427e12b1e"), looks := false }, kinds := [], alts := [], laidByText := true, laidKinds := [.sentinel], laidTests := true, laidLooks := .later }
def PackSizeUptoCardSaid : Prop := Claim7.holds Tryd.pinned (.plain (OpenSpec.upto packSizeSpec)) packSizeUptoCard

/-- THE SECOND FORM's CARD OF 'tollerlaw16.PackClock'. -/
def packClockUptoCard : Claim7 := { stood := { row := packClockUptoRow, standIns := [], harness := (true, "ba96b02a7052645b10ed3336affb41c8edeb3d96732d6e86b498000427e12b1e"), looks := false }, kinds := [], alts := [], laidByText := true, laidKinds := [.sentinel], laidTests := true, laidLooks := .later }
def PackClockUptoCardSaid : Prop := Claim7.holds Tryd.pinned (.plain (OpenSpec.upto packClockSpec)) packClockUptoCard
end Rows
end Go.Proofs.YthlaigpopplafaaDoor
