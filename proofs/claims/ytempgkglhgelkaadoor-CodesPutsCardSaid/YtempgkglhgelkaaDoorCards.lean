/-
  DERIVED. GIVEN WITH THE SEED: THE CARDS: each row of YtempgkglhgelkaaDoorRows.lean that lists a variable, with what it lists TIED to the program's text (the seventh form; the later family's looks); each row that meets fmt, with fmt's text TOLD by the authors' own Lean function (tested against real Go, not proved from fmt's source: count such statements apart). THE CARD IS WHAT COUNTS. Prove the row's statement (the work); the ties are given (YtempgkglhgelkaaDoorTie.lean); close each card by the builder's one call (the guide's Derived/Test/ToyasCard.lean, 'card_holds'). Laid BY PROGRAM, IN A SANDBOX (cutbox-door.mjs). By AI agents, Wed Nov 11 2026. No macro, syntax, notation, axiom, sorry.
-/
import Derived.Test.YtempgkglhgelkaaDoorRows
import GoSem.ClaimSeven
namespace Go.Proofs.YtempgkglhgelkaaDoor
namespace Rows

/-- THE TIED CARD OF 'inkwelllaw07.SymsRise'. -/
def symsRiseCard : Claim7 := { stood := { row := symsRiseRow, standIns := [], harness := (true, "b23911006372d969f13de8588d7e85536c199fec126d8db928052c005ff3e131"), looks := true }, kinds := [], alts := [], laidByText := true, laidKinds := [.widerDeep, .widerDeep], laidTests := true, laidLooks := .later }
def SymsRiseCardSaid : Prop := Claim7.holds Tryd.pinned (.plain (OpenSpec.ofChange symsRiseSpec)) symsRiseCard

/-- THE TIED CARD OF 'inkwelllaw07.SymsTells'. -/
def symsTellsCard : Claim7 := { stood := { row := symsTellsRow, standIns := [], harness := (true, "b23911006372d969f13de8588d7e85536c199fec126d8db928052c005ff3e131"), looks := true }, kinds := [], alts := [], laidByText := true, laidKinds := [.widerDeep, .widerDeep], laidTests := true, laidLooks := .later }
def SymsTellsCardSaid : Prop := Claim7.holds Tryd.pinned (.plain (OpenSpec.ofChange symsTellsSpec)) symsTellsCard

/-- THE TIED CARD OF 'inkwelllaw07.SymsOf'. -/
def symsOfCard : Claim7 := { stood := { row := symsOfRow, standIns := [], harness := (true, "b23911006372d969f13de8588d7e85536c199fec126d8db928052c005ff3e131"), looks := true }, kinds := [], alts := [], laidByText := true, laidKinds := [.widerDeep, .widerDeep], laidTests := true, laidLooks := .later }
def SymsOfCardSaid : Prop := Claim7.holds Tryd.pinned (.plain (OpenSpec.ofChange symsOfSpec)) symsOfCard

/-- THE TIED CARD OF 'inkwelllaw07.SymsBack'. -/
def symsBackCard : Claim7 := { stood := { row := symsBackRow, standIns := [], harness := (true, "b23911006372d969f13de8588d7e85536c199fec126d8db928052c005ff3e131"), looks := true }, kinds := [], alts := [], laidByText := true, laidKinds := [.widerDeep, .widerDeep], laidTests := true, laidLooks := .later }
def SymsBackCardSaid : Prop := Claim7.holds Tryd.pinned (.plain (OpenSpec.ofChange symsBackSpec)) symsBackCard

/-- THE TIED CARD OF 'inkwelllaw07.SymsWeighs'. -/
def symsWeighsCard : Claim7 := { stood := { row := symsWeighsRow, standIns := [], harness := (true, "b23911006372d969f13de8588d7e85536c199fec126d8db928052c005ff3e131"), looks := true }, kinds := [], alts := [], laidByText := true, laidKinds := [.widerDeep, .widerDeep], laidTests := true, laidLooks := .later }
def SymsWeighsCardSaid : Prop := Claim7.holds Tryd.pinned (.plain (OpenSpec.ofChange symsWeighsSpec)) symsWeighsCard

/-- THE TIED CARD OF 'inkwelllaw07.SymsFixed'. -/
def symsFixedCard : Claim7 := { stood := { row := symsFixedRow, standIns := [], harness := (true, "b23911006372d969f13de8588d7e85536c199fec126d8db928052c005ff3e131"), looks := true }, kinds := [], alts := [], laidByText := true, laidKinds := [.widerDeep, .widerDeep], laidTests := true, laidLooks := .later }
def SymsFixedCardSaid : Prop := Claim7.holds Tryd.pinned (.plain (OpenSpec.ofChange symsFixedSpec)) symsFixedCard

/-- THE TIED CARD OF 'inkwelllaw08.CodesGets'. -/
def codesGetsCard : Claim7 := { stood := { row := codesGetsRow, standIns := [], harness := (true, "b23911006372d969f13de8588d7e85536c199fec126d8db928052c005ff3e131"), looks := true }, kinds := [], alts := [], laidByText := true, laidKinds := [.widerDeep], laidTests := true, laidLooks := .later }
def CodesGetsCardSaid : Prop := Claim7.holds Tryd.pinned (.plain (OpenSpec.ofChange codesGetsSpec)) codesGetsCard

/-- THE TIED CARD OF 'inkwelllaw08.CodesPuts'. -/
def codesPutsCard : Claim7 := { stood := { row := codesPutsRow, standIns := [], harness := (true, "b23911006372d969f13de8588d7e85536c199fec126d8db928052c005ff3e131"), looks := true }, kinds := [], alts := [], laidByText := true, laidKinds := [.widerDeep], laidTests := true, laidLooks := .later }
def CodesPutsCardSaid : Prop := Claim7.holds Tryd.pinned (.plain (OpenSpec.ofChange codesPutsSpec)) codesPutsCard

/-- THE SECOND FORM's CARD OF 'inkwelllaw07.SymsRise'. -/
def symsRiseUptoCard : Claim7 := { stood := { row := symsRiseUptoRow, standIns := [], harness := (true, "b23911006372d969f13de8588d7e85536c199fec126d8db928052c005ff3e131"), looks := true }, kinds := [], alts := [], laidByText := true, laidKinds := [.widerDeep, .widerDeep], laidTests := true, laidLooks := .later }
def SymsRiseUptoCardSaid : Prop := Claim7.holds Tryd.pinned (.plain (OpenSpec.upto symsRiseSpec)) symsRiseUptoCard

/-- THE SECOND FORM's CARD OF 'inkwelllaw07.SymsTells'. -/
def symsTellsUptoCard : Claim7 := { stood := { row := symsTellsUptoRow, standIns := [], harness := (true, "b23911006372d969f13de8588d7e85536c199fec126d8db928052c005ff3e131"), looks := true }, kinds := [], alts := [], laidByText := true, laidKinds := [.widerDeep, .widerDeep], laidTests := true, laidLooks := .later }
def SymsTellsUptoCardSaid : Prop := Claim7.holds Tryd.pinned (.plain (OpenSpec.upto symsTellsSpec)) symsTellsUptoCard

/-- THE SECOND FORM's CARD OF 'inkwelllaw07.SymsOf'. -/
def symsOfUptoCard : Claim7 := { stood := { row := symsOfUptoRow, standIns := [], harness := (true, "b23911006372d969f13de8588d7e85536c199fec126d8db928052c005ff3e131"), looks := true }, kinds := [], alts := [], laidByText := true, laidKinds := [.widerDeep, .widerDeep], laidTests := true, laidLooks := .later }
def SymsOfUptoCardSaid : Prop := Claim7.holds Tryd.pinned (.plain (OpenSpec.upto symsOfSpec)) symsOfUptoCard

/-- THE SECOND FORM's CARD OF 'inkwelllaw07.SymsBack'. -/
def symsBackUptoCard : Claim7 := { stood := { row := symsBackUptoRow, standIns := [], harness := (true, "b23911006372d969f13de8588d7e85536c199fec126d8db928052c005ff3e131"), looks := true }, kinds := [], alts := [], laidByText := true, laidKinds := [.widerDeep, .widerDeep], laidTests := true, laidLooks := .later }
def SymsBackUptoCardSaid : Prop := Claim7.holds Tryd.pinned (.plain (OpenSpec.upto symsBackSpec)) symsBackUptoCard

/-- THE SECOND FORM's CARD OF 'inkwelllaw07.SymsWeighs'. -/
def symsWeighsUptoCard : Claim7 := { stood := { row := symsWeighsUptoRow, standIns := [], harness := (true, "b23911006372d969f13de8588d7e85536c199fec126d8db928052c005ff3e131"), looks := true }, kinds := [], alts := [], laidByText := true, laidKinds := [.widerDeep, .widerDeep], laidTests := true, laidLooks := .later }
def SymsWeighsUptoCardSaid : Prop := Claim7.holds Tryd.pinned (.plain (OpenSpec.upto symsWeighsSpec)) symsWeighsUptoCard

/-- THE SECOND FORM's CARD OF 'inkwelllaw07.SymsFixed'. -/
def symsFixedUptoCard : Claim7 := { stood := { row := symsFixedUptoRow, standIns := [], harness := (true, "b23911006372d969f13de8588d7e85536c199fec126d8db928052c005ff3e131"), looks := true }, kinds := [], alts := [], laidByText := true, laidKinds := [.widerDeep, .widerDeep], laidTests := true, laidLooks := .later }
def SymsFixedUptoCardSaid : Prop := Claim7.holds Tryd.pinned (.plain (OpenSpec.upto symsFixedSpec)) symsFixedUptoCard

/-- THE SECOND FORM's CARD OF 'inkwelllaw08.CodesGets'. -/
def codesGetsUptoCard : Claim7 := { stood := { row := codesGetsUptoRow, standIns := [], harness := (true, "b23911006372d969f13de8588d7e85536c199fec126d8db928052c005ff3e131"), looks := true }, kinds := [], alts := [], laidByText := true, laidKinds := [.widerDeep], laidTests := true, laidLooks := .later }
def CodesGetsUptoCardSaid : Prop := Claim7.holds Tryd.pinned (.plain (OpenSpec.upto codesGetsSpec)) codesGetsUptoCard

/-- THE SECOND FORM's CARD OF 'inkwelllaw08.CodesPuts'. -/
def codesPutsUptoCard : Claim7 := { stood := { row := codesPutsUptoRow, standIns := [], harness := (true, "b23911006372d969f13de8588d7e85536c199fec126d8db928052c005ff3e131"), looks := true }, kinds := [], alts := [], laidByText := true, laidKinds := [.widerDeep], laidTests := true, laidLooks := .later }
def CodesPutsUptoCardSaid : Prop := Claim7.holds Tryd.pinned (.plain (OpenSpec.upto codesPutsSpec)) codesPutsUptoCard
end Rows
end Go.Proofs.YtempgkglhgelkaaDoor
