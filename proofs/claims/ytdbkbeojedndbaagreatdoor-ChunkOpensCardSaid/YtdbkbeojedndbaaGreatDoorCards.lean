/-
  DERIVED. GIVEN WITH THE SEED: THE CARDS: each row of YtdbkbeojedndbaaGreatDoorRows.lean that lists a variable, with what it lists TIED to the program's text (the seventh form; the later family's looks); each row that meets fmt, with fmt's text TOLD by the authors' own Lean function (tested against real Go, not proved from fmt's source: count such statements apart). THE CARD IS WHAT COUNTS. Prove the row's statement (the work); the ties are given (YtdbkbeojedndbaaGreatDoorTie.lean); close each card by the builder's one call (the guide's Derived/Test/ToyasCard.lean, 'card_holds'). Laid BY PROGRAM, IN A SANDBOX (cutbox-door.mjs). By AI agents, Wed Nov 11 2026. No macro, syntax, notation, axiom, sorry.
-/
import Derived.Test.YtdbkbeojedndbaaGreatDoorRows
import GoSem.ClaimSeven
namespace Go.Proofs.YtdbkbeojedndbaaGreatDoor
namespace Rows

/-- THE TIED CARD OF 'inkwelllaw22.ChunkOpens'. -/
def chunkOpensCard : Claim7 := { stood := { row := chunkOpensRow, standIns := [], harness := (true, "20067969bb601ab60899e1661c5274da7fbc1f87396c44679cfd14e110dc30de"), looks := true }, kinds := [], alts := [], laidByText := true, laidKinds := [.widerDeep, .widerDeep, .widerDeep], laidTests := true, laidLooks := .later }
def ChunkOpensCardSaid : Prop := Claim7.holds Tryz.pinned (.plain (OpenSpec.ofChange chunkOpensSpec)) chunkOpensCard

/-- THE SECOND FORM's CARD OF 'inkwelllaw22.ChunkOpens'. -/
def chunkOpensUptoCard : Claim7 := { stood := { row := chunkOpensUptoRow, standIns := [], harness := (true, "20067969bb601ab60899e1661c5274da7fbc1f87396c44679cfd14e110dc30de"), looks := true }, kinds := [], alts := [], laidByText := true, laidKinds := [.widerDeep, .widerDeep, .widerDeep], laidTests := true, laidLooks := .later }
def ChunkOpensUptoCardSaid : Prop := Claim7.holds Tryz.pinned (.plain (OpenSpec.upto chunkOpensSpec)) chunkOpensUptoCard
end Rows
end Go.Proofs.YtdbkbeojedndbaaGreatDoor
