/-
  DERIVED. GIVEN WITH THE SEED: THE CARDS: each row of YtendohnkhbgfbaaDoorRows.lean that lists a variable, with what it lists TIED to the program's text (the seventh form; the later family's looks); each row that meets fmt, with fmt's text TOLD by the authors' own Lean function (tested against real Go, not proved from fmt's source: count such statements apart). THE CARD IS WHAT COUNTS. Prove the row's statement (the work); the ties are given (YtendohnkhbgfbaaDoorTie.lean); close each card by the builder's one call (the guide's Derived/Test/ToyasCard.lean, 'card_holds'). Laid BY PROGRAM, IN A SANDBOX (cutbox-door.mjs). By AI agents, Wed Nov 11 2026. No macro, syntax, notation, axiom, sorry.
-/
import Derived.Test.YtendohnkhbgfbaaDoorRows
import GoSem.ClaimSeven
namespace Go.Proofs.YtendohnkhbgfbaaDoor
namespace Rows

/-- THE TIED CARD OF 'inkwelllaw22.ChunkPuts'. -/
def chunkPutsCard : Claim7 := { stood := { row := chunkPutsRow, standIns := [], harness := (true, "52d9451fe58c256cf4d217acf48a2fb03c4b35238c1f09ba63c69a2687c70a54"), looks := true }, kinds := [], alts := [], laidByText := true, laidKinds := [.widerDeep, .widerDeep, .data, .data, .widerDeep, .widerDeep], laidTests := true, laidLooks := .later }
def ChunkPutsCardSaid : Prop := Claim7.holds Tryd.pinned (.plain (OpenSpec.ofChange chunkPutsSpec)) chunkPutsCard

/-- THE TIED CARD OF 'inkwelllaw22.ChunkNexts'. -/
def chunkNextsCard : Claim7 := { stood := { row := chunkNextsRow, standIns := [], harness := (true, "52d9451fe58c256cf4d217acf48a2fb03c4b35238c1f09ba63c69a2687c70a54"), looks := true }, kinds := [], alts := [], laidByText := true, laidKinds := [.widerDeep, .widerDeep, .data, .data, .widerDeep, .widerDeep], laidTests := true, laidLooks := .later }
def ChunkNextsCardSaid : Prop := Claim7.holds Tryd.pinned (.plain (OpenSpec.ofChange chunkNextsSpec)) chunkNextsCard

/-- THE TIED CARD OF 'inkwelllaw22.ChunkSums'. -/
def chunkSumsCard : Claim7 := { stood := { row := chunkSumsRow, standIns := [], harness := (true, "52d9451fe58c256cf4d217acf48a2fb03c4b35238c1f09ba63c69a2687c70a54"), looks := true }, kinds := [], alts := [], laidByText := true, laidKinds := [.widerDeep, .widerDeep, .data, .data, .widerDeep, .widerDeep], laidTests := true, laidLooks := .later }
def ChunkSumsCardSaid : Prop := Claim7.holds Tryd.pinned (.plain (OpenSpec.ofChange chunkSumsSpec)) chunkSumsCard

/-- THE TIED CARD OF 'inkwelllaw22.ChunkBack'. -/
def chunkBackCard : Claim7 := { stood := { row := chunkBackRow, standIns := [], harness := (true, "52d9451fe58c256cf4d217acf48a2fb03c4b35238c1f09ba63c69a2687c70a54"), looks := true }, kinds := [], alts := [], laidByText := true, laidKinds := [.widerDeep, .widerDeep, .data, .data, .widerDeep, .widerDeep], laidTests := true, laidLooks := .later }
def ChunkBackCardSaid : Prop := Claim7.holds Tryd.pinned (.plain (OpenSpec.ofChange chunkBackSpec)) chunkBackCard

/-- THE TIED CARD OF 'inkwelllaw22.ChunkMany'. -/
def chunkManyCard : Claim7 := { stood := { row := chunkManyRow, standIns := [], harness := (true, "52d9451fe58c256cf4d217acf48a2fb03c4b35238c1f09ba63c69a2687c70a54"), looks := true }, kinds := [], alts := [], laidByText := true, laidKinds := [.widerDeep, .widerDeep, .data, .data, .widerDeep, .widerDeep], laidTests := true, laidLooks := .later }
def ChunkManyCardSaid : Prop := Claim7.holds Tryd.pinned (.plain (OpenSpec.ofChange chunkManySpec)) chunkManyCard

/-- THE SECOND FORM's CARD OF 'inkwelllaw22.ChunkPuts'. -/
def chunkPutsUptoCard : Claim7 := { stood := { row := chunkPutsUptoRow, standIns := [], harness := (true, "52d9451fe58c256cf4d217acf48a2fb03c4b35238c1f09ba63c69a2687c70a54"), looks := true }, kinds := [], alts := [], laidByText := true, laidKinds := [.widerDeep, .widerDeep, .data, .data, .widerDeep, .widerDeep], laidTests := true, laidLooks := .later }
def ChunkPutsUptoCardSaid : Prop := Claim7.holds Tryd.pinned (.plain (OpenSpec.upto chunkPutsSpec)) chunkPutsUptoCard

/-- THE SECOND FORM's CARD OF 'inkwelllaw22.ChunkNexts'. -/
def chunkNextsUptoCard : Claim7 := { stood := { row := chunkNextsUptoRow, standIns := [], harness := (true, "52d9451fe58c256cf4d217acf48a2fb03c4b35238c1f09ba63c69a2687c70a54"), looks := true }, kinds := [], alts := [], laidByText := true, laidKinds := [.widerDeep, .widerDeep, .data, .data, .widerDeep, .widerDeep], laidTests := true, laidLooks := .later }
def ChunkNextsUptoCardSaid : Prop := Claim7.holds Tryd.pinned (.plain (OpenSpec.upto chunkNextsSpec)) chunkNextsUptoCard

/-- THE SECOND FORM's CARD OF 'inkwelllaw22.ChunkSums'. -/
def chunkSumsUptoCard : Claim7 := { stood := { row := chunkSumsUptoRow, standIns := [], harness := (true, "52d9451fe58c256cf4d217acf48a2fb03c4b35238c1f09ba63c69a2687c70a54"), looks := true }, kinds := [], alts := [], laidByText := true, laidKinds := [.widerDeep, .widerDeep, .data, .data, .widerDeep, .widerDeep], laidTests := true, laidLooks := .later }
def ChunkSumsUptoCardSaid : Prop := Claim7.holds Tryd.pinned (.plain (OpenSpec.upto chunkSumsSpec)) chunkSumsUptoCard

/-- THE SECOND FORM's CARD OF 'inkwelllaw22.ChunkBack'. -/
def chunkBackUptoCard : Claim7 := { stood := { row := chunkBackUptoRow, standIns := [], harness := (true, "52d9451fe58c256cf4d217acf48a2fb03c4b35238c1f09ba63c69a2687c70a54"), looks := true }, kinds := [], alts := [], laidByText := true, laidKinds := [.widerDeep, .widerDeep, .data, .data, .widerDeep, .widerDeep], laidTests := true, laidLooks := .later }
def ChunkBackUptoCardSaid : Prop := Claim7.holds Tryd.pinned (.plain (OpenSpec.upto chunkBackSpec)) chunkBackUptoCard

/-- THE SECOND FORM's CARD OF 'inkwelllaw22.ChunkMany'. -/
def chunkManyUptoCard : Claim7 := { stood := { row := chunkManyUptoRow, standIns := [], harness := (true, "52d9451fe58c256cf4d217acf48a2fb03c4b35238c1f09ba63c69a2687c70a54"), looks := true }, kinds := [], alts := [], laidByText := true, laidKinds := [.widerDeep, .widerDeep, .data, .data, .widerDeep, .widerDeep], laidTests := true, laidLooks := .later }
def ChunkManyUptoCardSaid : Prop := Claim7.holds Tryd.pinned (.plain (OpenSpec.upto chunkManySpec)) chunkManyUptoCard
end Rows
end Go.Proofs.YtendohnkhbgfbaaDoor
