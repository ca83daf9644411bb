/-
  DERIVED. GIVEN WITH THE SEED: THE CARDS: each row of YtkoomfldnbpndaaDoorRows.lean that lists a variable, with what it lists TIED to the program's text (the seventh form; the later family's looks); each row that meets fmt, with fmt's text TOLD by the authors' own Lean function (tested against real Go, not proved from fmt's source: count such statements apart). THE CARD IS WHAT COUNTS. Prove the row's statement (the work); the ties are given (YtkoomfldnbpndaaDoorTie.lean); close each card by the builder's one call (the guide's Derived/Test/ToyasCard.lean, 'card_holds'). Laid BY PROGRAM, IN A SANDBOX (cutbox-door.mjs). By AI agents, Wed Nov 11 2026. No macro, syntax, notation, axiom, sorry.
-/
import Derived.Test.YtkoomfldnbpndaaDoorRows
import GoSem.ClaimSeven
namespace Go.Proofs.YtkoomfldnbpndaaDoor
namespace Rows

/-- THE TIED CARD OF 'gueritelaw03.AddrTexts'. -/
def addrTextsCard : Claim7 := { stood := { row := addrTextsRow, standIns := [], harness := (true, "715d1072ef3f306c3f9937caac559726f0e0c91d5286fafcef1b30ebee286cc8"), looks := true }, kinds := [], alts := [], laidByText := true, laidKinds := [.data, .data, .data, .data, .sentinel, .sentinel, .pinned], laidTests := true, laidLooks := .later }
def AddrTextsCardSaid : Prop := Claim7.holds Tryd.pinned (.plain (OpenSpec.ofChange addrTextsSpec)) addrTextsCard

/-- THE TIED CARD OF 'gueritelaw03.AddrPrefixTexts'. -/
def addrPrefixTextsCard : Claim7 := { stood := { row := addrPrefixTextsRow, standIns := [], harness := (true, "715d1072ef3f306c3f9937caac559726f0e0c91d5286fafcef1b30ebee286cc8"), looks := true }, kinds := [], alts := [], laidByText := true, laidKinds := [.data, .data, .data, .data, .sentinel, .sentinel, .pinned], laidTests := true, laidLooks := .later }
def AddrPrefixTextsCardSaid : Prop := Claim7.holds Tryd.pinned (.plain (OpenSpec.ofChange addrPrefixTextsSpec)) addrPrefixTextsCard

/-- THE SECOND FORM's CARD OF 'gueritelaw03.AddrTexts'. -/
def addrTextsUptoCard : Claim7 := { stood := { row := addrTextsUptoRow, standIns := [], harness := (true, "715d1072ef3f306c3f9937caac559726f0e0c91d5286fafcef1b30ebee286cc8"), looks := true }, kinds := [], alts := [], laidByText := true, laidKinds := [.data, .data, .data, .data, .sentinel, .sentinel, .pinned], laidTests := true, laidLooks := .later }
def AddrTextsUptoCardSaid : Prop := Claim7.holds Tryd.pinned (.plain (OpenSpec.upto addrTextsSpec)) addrTextsUptoCard

/-- THE SECOND FORM's CARD OF 'gueritelaw03.AddrPrefixTexts'. -/
def addrPrefixTextsUptoCard : Claim7 := { stood := { row := addrPrefixTextsUptoRow, standIns := [], harness := (true, "715d1072ef3f306c3f9937caac559726f0e0c91d5286fafcef1b30ebee286cc8"), looks := true }, kinds := [], alts := [], laidByText := true, laidKinds := [.data, .data, .data, .data, .sentinel, .sentinel, .pinned], laidTests := true, laidLooks := .later }
def AddrPrefixTextsUptoCardSaid : Prop := Claim7.holds Tryd.pinned (.plain (OpenSpec.upto addrPrefixTextsSpec)) addrPrefixTextsUptoCard
end Rows
end Go.Proofs.YtkoomfldnbpndaaDoor
