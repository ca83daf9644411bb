/-
  DERIVED. GIVEN WITH THE SEED: THE CARDS: each row of YtidlganponfccaaDoorRows.lean that lists a variable, with what it lists TIED to the program's text (the seventh form; the later family's looks); each row that meets fmt, with fmt's text TOLD by the authors' own Lean function (tested against real Go, not proved from fmt's source: count such statements apart). THE CARD IS WHAT COUNTS. Prove the row's statement (the work); the ties are given (YtidlganponfccaaDoorTie.lean); close each card by the builder's one call (the guide's Derived/Test/ToyasCard.lean, 'card_holds'). Laid BY PROGRAM, IN A SANDBOX (cutbox-door.mjs). By AI agents, Wed Nov 11 2026. No macro, syntax, notation, axiom, sorry.
-/
import Derived.Test.YtidlganponfccaaDoorRows
import GoSem.ClaimSeven
namespace Go.Proofs.YtidlganponfccaaDoor
namespace Rows

/-- THE TIED CARD OF 'gueritelaw08.CatsSets'. -/
def catsSetsCard : Claim7 := { stood := { row := catsSetsRow, standIns := [], harness := (true, "14349a8daa8fc187ed1a08462ae49f93ddb55cb9bdf71ca9b367c7788b3f8ef0"), looks := true }, kinds := [], alts := [], laidByText := true, laidKinds := [.data, .data, .data], laidTests := true, laidLooks := .later }
def CatsSetsCardSaid : Prop := Claim7.holds Tryd.pinned (.plain (OpenSpec.ofChange catsSetsSpec)) catsSetsCard

/-- THE TIED CARD OF 'gueritelaw08.CatsMeets'. -/
def catsMeetsCard : Claim7 := { stood := { row := catsMeetsRow, standIns := [], harness := (true, "14349a8daa8fc187ed1a08462ae49f93ddb55cb9bdf71ca9b367c7788b3f8ef0"), looks := true }, kinds := [], alts := [], laidByText := true, laidKinds := [.data, .data, .data], laidTests := true, laidLooks := .later }
def CatsMeetsCardSaid : Prop := Claim7.holds Tryd.pinned (.plain (OpenSpec.ofChange catsMeetsSpec)) catsMeetsCard

/-- THE TIED CARD OF 'gueritelaw08.CatsCounts'. -/
def catsCountsCard : Claim7 := { stood := { row := catsCountsRow, standIns := [], harness := (true, "14349a8daa8fc187ed1a08462ae49f93ddb55cb9bdf71ca9b367c7788b3f8ef0"), looks := true }, kinds := [], alts := [], laidByText := true, laidKinds := [.data, .data, .data], laidTests := true, laidLooks := .later }
def CatsCountsCardSaid : Prop := Claim7.holds Tryd.pinned (.plain (OpenSpec.ofChange catsCountsSpec)) catsCountsCard

/-- THE TIED CARD OF 'gueritelaw08.CatsTexts'. -/
def catsTextsCard : Claim7 := { stood := { row := catsTextsRow, standIns := [], harness := (true, "14349a8daa8fc187ed1a08462ae49f93ddb55cb9bdf71ca9b367c7788b3f8ef0"), looks := true }, kinds := [], alts := [], laidByText := true, laidKinds := [.data, .data, .data, .data, .sentinel, .sentinel, .pinned], laidTests := true, laidLooks := .later }
def CatsTextsCardSaid : Prop := Claim7.holds Tryd.pinned (.plain (OpenSpec.ofChange catsTextsSpec)) catsTextsCard

/-- THE TIED CARD OF 'gueritelaw09.LabelTexts'. -/
def labelTextsCard : Claim7 := { stood := { row := labelTextsRow, standIns := [], harness := (true, "14349a8daa8fc187ed1a08462ae49f93ddb55cb9bdf71ca9b367c7788b3f8ef0"), looks := true }, kinds := [], alts := [], laidByText := true, laidKinds := [.data, .data, .data, .data, .sentinel, .sentinel, .pinned], laidTests := true, laidLooks := .later }
def LabelTextsCardSaid : Prop := Claim7.holds Tryd.pinned (.plain (OpenSpec.ofChange labelTextsSpec)) labelTextsCard

/-- THE TIED CARD OF 'gueritelaw09.LabelLattice'. -/
def labelLatticeCard : Claim7 := { stood := { row := labelLatticeRow, standIns := [], harness := (true, "14349a8daa8fc187ed1a08462ae49f93ddb55cb9bdf71ca9b367c7788b3f8ef0"), looks := true }, kinds := [], alts := [], laidByText := true, laidKinds := [.data, .data, .data, .data, .sentinel, .sentinel, .pinned], laidTests := true, laidLooks := .later }
def LabelLatticeCardSaid : Prop := Claim7.holds Tryd.pinned (.plain (OpenSpec.ofChange labelLatticeSpec)) labelLatticeCard

/-- THE TIED CARD OF 'gueritelaw09.LabelTurns'. -/
def labelTurnsCard : Claim7 := { stood := { row := labelTurnsRow, standIns := [], harness := (true, "14349a8daa8fc187ed1a08462ae49f93ddb55cb9bdf71ca9b367c7788b3f8ef0"), looks := true }, kinds := [], alts := [], laidByText := true, laidKinds := [.data, .data, .data, .data, .sentinel, .sentinel, .pinned], laidTests := true, laidLooks := .later }
def LabelTurnsCardSaid : Prop := Claim7.holds Tryd.pinned (.plain (OpenSpec.ofChange labelTurnsSpec)) labelTurnsCard

/-- THE TIED CARD OF 'gueritelaw09.LabelOrders'. -/
def labelOrdersCard : Claim7 := { stood := { row := labelOrdersRow, standIns := [], harness := (true, "14349a8daa8fc187ed1a08462ae49f93ddb55cb9bdf71ca9b367c7788b3f8ef0"), looks := true }, kinds := [], alts := [], laidByText := true, laidKinds := [.data, .data, .data, .data, .sentinel, .sentinel, .pinned], laidTests := true, laidLooks := .later }
def LabelOrdersCardSaid : Prop := Claim7.holds Tryd.pinned (.plain (OpenSpec.ofChange labelOrdersSpec)) labelOrdersCard

/-- THE TIED CARD OF 'gueritelaw10.CipsoTags'. -/
def cipsoTagsCard : Claim7 := { stood := { row := cipsoTagsRow, standIns := [], harness := (true, "14349a8daa8fc187ed1a08462ae49f93ddb55cb9bdf71ca9b367c7788b3f8ef0"), looks := true }, kinds := [], alts := [], laidByText := true, laidKinds := [.data, .pinned], laidTests := true, laidLooks := .later }
def CipsoTagsCardSaid : Prop := Claim7.holds Tryd.pinned (.plain (OpenSpec.ofChange cipsoTagsSpec)) cipsoTagsCard

/-- THE TIED CARD OF 'gueritelaw10.CipsoDecodes'. -/
def cipsoDecodesCard : Claim7 := { stood := { row := cipsoDecodesRow, standIns := [], harness := (true, "14349a8daa8fc187ed1a08462ae49f93ddb55cb9bdf71ca9b367c7788b3f8ef0"), looks := true }, kinds := [], alts := [], laidByText := true, laidKinds := [.data, .pinned], laidTests := true, laidLooks := .later }
def CipsoDecodesCardSaid : Prop := Claim7.holds Tryd.pinned (.plain (OpenSpec.ofChange cipsoDecodesSpec)) cipsoDecodesCard

/-- THE TIED CARD OF 'gueritelaw10.CipsoBack'. -/
def cipsoBackCard : Claim7 := { stood := { row := cipsoBackRow, standIns := [], harness := (true, "14349a8daa8fc187ed1a08462ae49f93ddb55cb9bdf71ca9b367c7788b3f8ef0"), looks := true }, kinds := [], alts := [], laidByText := true, laidKinds := [.data, .pinned], laidTests := true, laidLooks := .later }
def CipsoBackCardSaid : Prop := Claim7.holds Tryd.pinned (.plain (OpenSpec.ofChange cipsoBackSpec)) cipsoBackCard

/-- THE SECOND FORM's CARD OF 'gueritelaw08.CatsSets'. -/
def catsSetsUptoCard : Claim7 := { stood := { row := catsSetsUptoRow, standIns := [], harness := (true, "14349a8daa8fc187ed1a08462ae49f93ddb55cb9bdf71ca9b367c7788b3f8ef0"), looks := true }, kinds := [], alts := [], laidByText := true, laidKinds := [.data, .data, .data], laidTests := true, laidLooks := .later }
def CatsSetsUptoCardSaid : Prop := Claim7.holds Tryd.pinned (.plain (OpenSpec.upto catsSetsSpec)) catsSetsUptoCard

/-- THE SECOND FORM's CARD OF 'gueritelaw08.CatsMeets'. -/
def catsMeetsUptoCard : Claim7 := { stood := { row := catsMeetsUptoRow, standIns := [], harness := (true, "14349a8daa8fc187ed1a08462ae49f93ddb55cb9bdf71ca9b367c7788b3f8ef0"), looks := true }, kinds := [], alts := [], laidByText := true, laidKinds := [.data, .data, .data], laidTests := true, laidLooks := .later }
def CatsMeetsUptoCardSaid : Prop := Claim7.holds Tryd.pinned (.plain (OpenSpec.upto catsMeetsSpec)) catsMeetsUptoCard

/-- THE SECOND FORM's CARD OF 'gueritelaw08.CatsCounts'. -/
def catsCountsUptoCard : Claim7 := { stood := { row := catsCountsUptoRow, standIns := [], harness := (true, "14349a8daa8fc187ed1a08462ae49f93ddb55cb9bdf71ca9b367c7788b3f8ef0"), looks := true }, kinds := [], alts := [], laidByText := true, laidKinds := [.data, .data, .data], laidTests := true, laidLooks := .later }
def CatsCountsUptoCardSaid : Prop := Claim7.holds Tryd.pinned (.plain (OpenSpec.upto catsCountsSpec)) catsCountsUptoCard

/-- THE SECOND FORM's CARD OF 'gueritelaw08.CatsTexts'. -/
def catsTextsUptoCard : Claim7 := { stood := { row := catsTextsUptoRow, standIns := [], harness := (true, "14349a8daa8fc187ed1a08462ae49f93ddb55cb9bdf71ca9b367c7788b3f8ef0"), looks := true }, kinds := [], alts := [], laidByText := true, laidKinds := [.data, .data, .data, .data, .sentinel, .sentinel, .pinned], laidTests := true, laidLooks := .later }
def CatsTextsUptoCardSaid : Prop := Claim7.holds Tryd.pinned (.plain (OpenSpec.upto catsTextsSpec)) catsTextsUptoCard

/-- THE SECOND FORM's CARD OF 'gueritelaw09.LabelTexts'. -/
def labelTextsUptoCard : Claim7 := { stood := { row := labelTextsUptoRow, standIns := [], harness := (true, "14349a8daa8fc187ed1a08462ae49f93ddb55cb9bdf71ca9b367c7788b3f8ef0"), looks := true }, kinds := [], alts := [], laidByText := true, laidKinds := [.data, .data, .data, .data, .sentinel, .sentinel, .pinned], laidTests := true, laidLooks := .later }
def LabelTextsUptoCardSaid : Prop := Claim7.holds Tryd.pinned (.plain (OpenSpec.upto labelTextsSpec)) labelTextsUptoCard

/-- THE SECOND FORM's CARD OF 'gueritelaw09.LabelLattice'. -/
def labelLatticeUptoCard : Claim7 := { stood := { row := labelLatticeUptoRow, standIns := [], harness := (true, "14349a8daa8fc187ed1a08462ae49f93ddb55cb9bdf71ca9b367c7788b3f8ef0"), looks := true }, kinds := [], alts := [], laidByText := true, laidKinds := [.data, .data, .data, .data, .sentinel, .sentinel, .pinned], laidTests := true, laidLooks := .later }
def LabelLatticeUptoCardSaid : Prop := Claim7.holds Tryd.pinned (.plain (OpenSpec.upto labelLatticeSpec)) labelLatticeUptoCard

/-- THE SECOND FORM's CARD OF 'gueritelaw09.LabelTurns'. -/
def labelTurnsUptoCard : Claim7 := { stood := { row := labelTurnsUptoRow, standIns := [], harness := (true, "14349a8daa8fc187ed1a08462ae49f93ddb55cb9bdf71ca9b367c7788b3f8ef0"), looks := true }, kinds := [], alts := [], laidByText := true, laidKinds := [.data, .data, .data, .data, .sentinel, .sentinel, .pinned], laidTests := true, laidLooks := .later }
def LabelTurnsUptoCardSaid : Prop := Claim7.holds Tryd.pinned (.plain (OpenSpec.upto labelTurnsSpec)) labelTurnsUptoCard

/-- THE SECOND FORM's CARD OF 'gueritelaw09.LabelOrders'. -/
def labelOrdersUptoCard : Claim7 := { stood := { row := labelOrdersUptoRow, standIns := [], harness := (true, "14349a8daa8fc187ed1a08462ae49f93ddb55cb9bdf71ca9b367c7788b3f8ef0"), looks := true }, kinds := [], alts := [], laidByText := true, laidKinds := [.data, .data, .data, .data, .sentinel, .sentinel, .pinned], laidTests := true, laidLooks := .later }
def LabelOrdersUptoCardSaid : Prop := Claim7.holds Tryd.pinned (.plain (OpenSpec.upto labelOrdersSpec)) labelOrdersUptoCard

/-- THE SECOND FORM's CARD OF 'gueritelaw10.CipsoTags'. -/
def cipsoTagsUptoCard : Claim7 := { stood := { row := cipsoTagsUptoRow, standIns := [], harness := (true, "14349a8daa8fc187ed1a08462ae49f93ddb55cb9bdf71ca9b367c7788b3f8ef0"), looks := true }, kinds := [], alts := [], laidByText := true, laidKinds := [.data, .pinned], laidTests := true, laidLooks := .later }
def CipsoTagsUptoCardSaid : Prop := Claim7.holds Tryd.pinned (.plain (OpenSpec.upto cipsoTagsSpec)) cipsoTagsUptoCard

/-- THE SECOND FORM's CARD OF 'gueritelaw10.CipsoDecodes'. -/
def cipsoDecodesUptoCard : Claim7 := { stood := { row := cipsoDecodesUptoRow, standIns := [], harness := (true, "14349a8daa8fc187ed1a08462ae49f93ddb55cb9bdf71ca9b367c7788b3f8ef0"), looks := true }, kinds := [], alts := [], laidByText := true, laidKinds := [.data, .pinned], laidTests := true, laidLooks := .later }
def CipsoDecodesUptoCardSaid : Prop := Claim7.holds Tryd.pinned (.plain (OpenSpec.upto cipsoDecodesSpec)) cipsoDecodesUptoCard

/-- THE SECOND FORM's CARD OF 'gueritelaw10.CipsoBack'. -/
def cipsoBackUptoCard : Claim7 := { stood := { row := cipsoBackUptoRow, standIns := [], harness := (true, "14349a8daa8fc187ed1a08462ae49f93ddb55cb9bdf71ca9b367c7788b3f8ef0"), looks := true }, kinds := [], alts := [], laidByText := true, laidKinds := [.data, .pinned], laidTests := true, laidLooks := .later }
def CipsoBackUptoCardSaid : Prop := Claim7.holds Tryd.pinned (.plain (OpenSpec.upto cipsoBackSpec)) cipsoBackUptoCard
end Rows
end Go.Proofs.YtidlganponfccaaDoor
