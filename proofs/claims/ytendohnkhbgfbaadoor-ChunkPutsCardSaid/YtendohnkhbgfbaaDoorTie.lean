/-
  DERIVED. GIVEN WITH THE SEED: THE PROGRAM's TIES (one call each: nine closed facts by the kernel) AND EACH ROW's TIE, after the 31st guide's Derived/Test/Toyas{Tie, Card}.lean. No idea stands in it: it is a product of the set-up. Laid BY PROGRAM, IN A SANDBOX (cutbox-door.mjs). By AI agents, Wed Nov 11 2026. No macro, syntax, notation, axiom, sorry.
-/
import Derived.Test.YtendohnkhbgfbaaDoorRows
import Derived.LaidByTextLater
import Derived.SevenTiedAt
import Derived.LaidSub
import Derived.LaidOnce
namespace Go.Proofs.YtendohnkhbgfbaaDoor
open Go
set_option maxRecDepth 100000
theorem seatTie1 : Tryd.prog.laidByTextLater [("inkwell/syms.lengths", Rows.laid_inkwell_syms_lengths), ("inkwell/syms.distances", Rows.laid_inkwell_syms_distances), ("inkwell/sha.keys", Rows.laid_inkwell_sha_keys), ("inkwell/sha.begin", Rows.laid_inkwell_sha_begin), ("inkwell/codes.order", Rows.laid_inkwell_codes_order), ("inkwell/chunk.magic", Rows.laid_inkwell_chunk_magic)] [.widerDeep, .widerDeep, .data, .data, .widerDeep, .widerDeep] true :=
  Program.laidByTextLater_by_one 98 8 65 (by kernel_rfl) (by kernel_rfl) (by kernel_rfl) (by kernel_rfl) (by kernel_rfl) (by kernel_rfl) (fun _ _ => by kernel_rfl)
theorem noOwnUnsafe : Tryd.pinned.checked.prog.headLifts.contains "ownunsafe" = false := by kernel_rfl
theorem tie : Tryd.prog.laidByTextLater [("inkwell/syms.lengths", Rows.laid_inkwell_syms_lengths), ("inkwell/syms.distances", Rows.laid_inkwell_syms_distances), ("inkwell/sha.keys", Rows.laid_inkwell_sha_keys), ("inkwell/sha.begin", Rows.laid_inkwell_sha_begin), ("inkwell/codes.order", Rows.laid_inkwell_codes_order), ("inkwell/chunk.magic", Rows.laid_inkwell_chunk_magic)] [.widerDeep, .widerDeep, .data, .data, .widerDeep, .widerDeep] true :=
  Program.laidByTextLater.sub seatTie1 ["inkwell/syms.lengths", "inkwell/syms.distances", "inkwell/sha.keys", "inkwell/sha.begin", "inkwell/codes.order", "inkwell/chunk.magic"] (by kernel_rfl) (by kernel_rfl)
theorem chunkPuts_row_tie : Rows.chunkPutsRow.laidByTextAt .later Tryd.pinned [.widerDeep, .widerDeep, .data, .data, .widerDeep, .widerDeep] true :=
  OpenClaim.laidByTextAt_later rfl rfl tie noOwnUnsafe
theorem chunkNexts_row_tie : Rows.chunkNextsRow.laidByTextAt .later Tryd.pinned [.widerDeep, .widerDeep, .data, .data, .widerDeep, .widerDeep] true :=
  OpenClaim.laidByTextAt_later rfl rfl tie noOwnUnsafe
theorem chunkSums_row_tie : Rows.chunkSumsRow.laidByTextAt .later Tryd.pinned [.widerDeep, .widerDeep, .data, .data, .widerDeep, .widerDeep] true :=
  OpenClaim.laidByTextAt_later rfl rfl tie noOwnUnsafe
theorem chunkBack_row_tie : Rows.chunkBackRow.laidByTextAt .later Tryd.pinned [.widerDeep, .widerDeep, .data, .data, .widerDeep, .widerDeep] true :=
  OpenClaim.laidByTextAt_later rfl rfl tie noOwnUnsafe
theorem chunkMany_row_tie : Rows.chunkManyRow.laidByTextAt .later Tryd.pinned [.widerDeep, .widerDeep, .data, .data, .widerDeep, .widerDeep] true :=
  OpenClaim.laidByTextAt_later rfl rfl tie noOwnUnsafe
theorem chunkPutsUpto_row_tie : Rows.chunkPutsUptoRow.laidByTextAt .later Tryd.pinned [.widerDeep, .widerDeep, .data, .data, .widerDeep, .widerDeep] true :=
  OpenClaim.laidByTextAt_later rfl rfl tie noOwnUnsafe
theorem chunkNextsUpto_row_tie : Rows.chunkNextsUptoRow.laidByTextAt .later Tryd.pinned [.widerDeep, .widerDeep, .data, .data, .widerDeep, .widerDeep] true :=
  OpenClaim.laidByTextAt_later rfl rfl tie noOwnUnsafe
theorem chunkSumsUpto_row_tie : Rows.chunkSumsUptoRow.laidByTextAt .later Tryd.pinned [.widerDeep, .widerDeep, .data, .data, .widerDeep, .widerDeep] true :=
  OpenClaim.laidByTextAt_later rfl rfl tie noOwnUnsafe
theorem chunkBackUpto_row_tie : Rows.chunkBackUptoRow.laidByTextAt .later Tryd.pinned [.widerDeep, .widerDeep, .data, .data, .widerDeep, .widerDeep] true :=
  OpenClaim.laidByTextAt_later rfl rfl tie noOwnUnsafe
theorem chunkManyUpto_row_tie : Rows.chunkManyUptoRow.laidByTextAt .later Tryd.pinned [.widerDeep, .widerDeep, .data, .data, .widerDeep, .widerDeep] true :=
  OpenClaim.laidByTextAt_later rfl rfl tie noOwnUnsafe
end Go.Proofs.YtendohnkhbgfbaaDoor
