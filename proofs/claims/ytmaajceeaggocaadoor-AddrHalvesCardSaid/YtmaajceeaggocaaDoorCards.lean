/-
  DERIVED. GIVEN WITH THE SEED: THE CARDS: each row of YtmaajceeaggocaaDoorRows.lean that lists a variable, with what it lists TIED to the program's text (the seventh form; the later family's looks); each row that meets fmt, with fmt's text TOLD by the authors' own Lean function (tested against real Go, not proved from fmt's source: count such statements apart). THE CARD IS WHAT COUNTS. Prove the row's statement (the work); the ties are given (YtmaajceeaggocaaDoorTie.lean); close each card by the builder's one call (the guide's Derived/Test/ToyasCard.lean, 'card_holds'). Laid BY PROGRAM, IN A SANDBOX (cutbox-door.mjs). By AI agents, Wed Nov 11 2026. No macro, syntax, notation, axiom, sorry.
-/
import Derived.Test.YtmaajceeaggocaaDoorRows
import GoSem.ClaimSeven
namespace Go.Proofs.YtmaajceeaggocaaDoor
namespace Rows

/-- THE TIED CARD OF 'gueritelaw03.AddrPrefixes'. -/
def addrPrefixesCard : Claim7 := { stood := { row := addrPrefixesRow, standIns := [], harness := (true, "33533f5308bb0f1d98b9e885bd67f814a63fad03ee030afee9509188752f69b9"), looks := true }, kinds := [], alts := [], laidByText := true, laidKinds := [.data, .data, .data, .data, .sentinel, .sentinel, .pinned], laidTests := true, laidLooks := .later }
def AddrPrefixesCardSaid : Prop := Claim7.holds Tryd.pinned (.plain (OpenSpec.ofChange addrPrefixesSpec)) addrPrefixesCard

/-- THE TIED CARD OF 'gueritelaw03.AddrCuts'. -/
def addrCutsCard : Claim7 := { stood := { row := addrCutsRow, standIns := [], harness := (true, "33533f5308bb0f1d98b9e885bd67f814a63fad03ee030afee9509188752f69b9"), looks := true }, kinds := [], alts := [], laidByText := true, laidKinds := [.data, .data, .data, .data, .sentinel, .sentinel, .pinned], laidTests := true, laidLooks := .later }
def AddrCutsCardSaid : Prop := Claim7.holds Tryd.pinned (.plain (OpenSpec.ofChange addrCutsSpec)) addrCutsCard

/-- THE TIED CARD OF 'gueritelaw03.AddrHalves'. -/
def addrHalvesCard : Claim7 := { stood := { row := addrHalvesRow, standIns := [], harness := (true, "33533f5308bb0f1d98b9e885bd67f814a63fad03ee030afee9509188752f69b9"), looks := true }, kinds := [], alts := [], laidByText := true, laidKinds := [.data, .data, .data, .data, .sentinel, .sentinel, .pinned], laidTests := true, laidLooks := .later }
def AddrHalvesCardSaid : Prop := Claim7.holds Tryd.pinned (.plain (OpenSpec.ofChange addrHalvesSpec)) addrHalvesCard

/-- THE TIED CARD OF 'gueritelaw03.AddrTexts'. -/
def addrTextsCard : Claim7 := { stood := { row := addrTextsRow, standIns := [], harness := (true, "33533f5308bb0f1d98b9e885bd67f814a63fad03ee030afee9509188752f69b9"), looks := true }, kinds := [], alts := [], laidByText := true, laidKinds := [.data, .data, .data, .data, .sentinel, .sentinel, .pinned], laidTests := true, laidLooks := .later }
def AddrTextsCardSaid : Prop := Claim7.holds Tryd.pinned (.plain (OpenSpec.ofChange addrTextsSpec)) addrTextsCard

/-- THE TIED CARD OF 'gueritelaw03.AddrPrefixTexts'. -/
def addrPrefixTextsCard : Claim7 := { stood := { row := addrPrefixTextsRow, standIns := [], harness := (true, "33533f5308bb0f1d98b9e885bd67f814a63fad03ee030afee9509188752f69b9"), looks := true }, kinds := [], alts := [], laidByText := true, laidKinds := [.data, .data, .data, .data, .sentinel, .sentinel, .pinned], laidTests := true, laidLooks := .later }
def AddrPrefixTextsCardSaid : Prop := Claim7.holds Tryd.pinned (.plain (OpenSpec.ofChange addrPrefixTextsSpec)) addrPrefixTextsCard

/-- THE SECOND FORM's CARD OF 'gueritelaw03.AddrPrefixes'. -/
def addrPrefixesUptoCard : Claim7 := { stood := { row := addrPrefixesUptoRow, standIns := [], harness := (true, "33533f5308bb0f1d98b9e885bd67f814a63fad03ee030afee9509188752f69b9"), looks := true }, kinds := [], alts := [], laidByText := true, laidKinds := [.data, .data, .data, .data, .sentinel, .sentinel, .pinned], laidTests := true, laidLooks := .later }
def AddrPrefixesUptoCardSaid : Prop := Claim7.holds Tryd.pinned (.plain (OpenSpec.upto addrPrefixesSpec)) addrPrefixesUptoCard

/-- THE SECOND FORM's CARD OF 'gueritelaw03.AddrCuts'. -/
def addrCutsUptoCard : Claim7 := { stood := { row := addrCutsUptoRow, standIns := [], harness := (true, "33533f5308bb0f1d98b9e885bd67f814a63fad03ee030afee9509188752f69b9"), looks := true }, kinds := [], alts := [], laidByText := true, laidKinds := [.data, .data, .data, .data, .sentinel, .sentinel, .pinned], laidTests := true, laidLooks := .later }
def AddrCutsUptoCardSaid : Prop := Claim7.holds Tryd.pinned (.plain (OpenSpec.upto addrCutsSpec)) addrCutsUptoCard

/-- THE SECOND FORM's CARD OF 'gueritelaw03.AddrHalves'. -/
def addrHalvesUptoCard : Claim7 := { stood := { row := addrHalvesUptoRow, standIns := [], harness := (true, "33533f5308bb0f1d98b9e885bd67f814a63fad03ee030afee9509188752f69b9"), looks := true }, kinds := [], alts := [], laidByText := true, laidKinds := [.data, .data, .data, .data, .sentinel, .sentinel, .pinned], laidTests := true, laidLooks := .later }
def AddrHalvesUptoCardSaid : Prop := Claim7.holds Tryd.pinned (.plain (OpenSpec.upto addrHalvesSpec)) addrHalvesUptoCard

/-- THE SECOND FORM's CARD OF 'gueritelaw03.AddrTexts'. -/
def addrTextsUptoCard : Claim7 := { stood := { row := addrTextsUptoRow, standIns := [], harness := (true, "33533f5308bb0f1d98b9e885bd67f814a63fad03ee030afee9509188752f69b9"), looks := true }, kinds := [], alts := [], laidByText := true, laidKinds := [.data, .data, .data, .data, .sentinel, .sentinel, .pinned], laidTests := true, laidLooks := .later }
def AddrTextsUptoCardSaid : Prop := Claim7.holds Tryd.pinned (.plain (OpenSpec.upto addrTextsSpec)) addrTextsUptoCard

/-- THE SECOND FORM's CARD OF 'gueritelaw03.AddrPrefixTexts'. -/
def addrPrefixTextsUptoCard : Claim7 := { stood := { row := addrPrefixTextsUptoRow, standIns := [], harness := (true, "33533f5308bb0f1d98b9e885bd67f814a63fad03ee030afee9509188752f69b9"), looks := true }, kinds := [], alts := [], laidByText := true, laidKinds := [.data, .data, .data, .data, .sentinel, .sentinel, .pinned], laidTests := true, laidLooks := .later }
def AddrPrefixTextsUptoCardSaid : Prop := Claim7.holds Tryd.pinned (.plain (OpenSpec.upto addrPrefixTextsSpec)) addrPrefixTextsUptoCard
end Rows
end Go.Proofs.YtmaajceeaggocaaDoor
