/-
  NARROWER THAN 'FOR EVERY INPUT', by the rows' own cells (each row's printed sentence says how): ChunkPuts: laid · ChunkNexts: laid · ChunkSums: laid · ChunkBack: laid · ChunkMany: laid.
  DERIVED. THE GIVEN ROWS OF THIS SEAT. 5 by the template 'for every input the law returns true; each argument reads behind the call as it read before'; 0 by the template 'total and deterministic' (their statements: YtendohnkhbgfbaaDoorTotals.lean).
  GIVEN WITH THE SEED: the statements are not yours to turn. If you find one false, say at which input.
  Laid BY PROGRAM, IN A SANDBOX (cutbox-rows.mjs): the forced cells as the released guide's own fill.sh prints them over the translation 62e46ed8aba9987a… (all of the seat's roots in one cut). By AI agents, Wed Nov 11 2026. No macro, syntax, notation, axiom, sorry.
-/
import Derived.Test.YtendohnkhbgfbaaDoorChecked
import GoSem.Claim
import GoSem.ClaimJoined
import GoSem.ClaimMapViews
import Derived.JoinedTies
import Derived.KernelRfl
namespace Go.Proofs.YtendohnkhbgfbaaDoor
/- THE CELL 'sum', in the pinned program and in every row, IS THE sha256 OF THE DUMP (.gsa) THAT YtendohnkhbgfbaaDoorProg.lean LOADS. Nothing in Lean hashes anything: it is a label: what it is worth is what the hold of that sum in a sandbox is worth. -/
noncomputable def Tryd.pinned : Pinned := { name := "ytendohnkhbgfbaadoor", sum := "62e46ed8aba9987a959f90e08af3c27be63b9a34de67fc13cad1a1a590870d68", checked := Tryd.checked }
namespace Rows
def none {H : Type} : Left H := { results := [], args := [] }

/- WHAT THE LISTED PACKAGE-LEVEL VARIABLES READ AS WHEN THE CALL BEGINS. Each datum BY PROGRAM (the guide's laid-datum.mjs) off the statement by which the dump's own 'gosem.cut.vars' lays the variable. In a bare row this is a premise. The card (YtendohnkhbgfbaaDoorCards.lean) ties it to the program's text. -/
def laid_inkwell_syms_lengths {H : Type} : DataW H := .agg [.agg [.lit (.int .i64 3), .lit (.int .i64 0)], .agg [.lit (.int .i64 4), .lit (.int .i64 0)], .agg [.lit (.int .i64 5), .lit (.int .i64 0)], .agg [.lit (.int .i64 6), .lit (.int .i64 0)], .agg [.lit (.int .i64 7), .lit (.int .i64 0)], .agg [.lit (.int .i64 8), .lit (.int .i64 0)], .agg [.lit (.int .i64 9), .lit (.int .i64 0)], .agg [.lit (.int .i64 10), .lit (.int .i64 0)], .agg [.lit (.int .i64 11), .lit (.int .i64 1)], .agg [.lit (.int .i64 13), .lit (.int .i64 1)], .agg [.lit (.int .i64 15), .lit (.int .i64 1)], .agg [.lit (.int .i64 17), .lit (.int .i64 1)], .agg [.lit (.int .i64 19), .lit (.int .i64 2)], .agg [.lit (.int .i64 23), .lit (.int .i64 2)], .agg [.lit (.int .i64 27), .lit (.int .i64 2)], .agg [.lit (.int .i64 31), .lit (.int .i64 2)], .agg [.lit (.int .i64 35), .lit (.int .i64 3)], .agg [.lit (.int .i64 43), .lit (.int .i64 3)], .agg [.lit (.int .i64 51), .lit (.int .i64 3)], .agg [.lit (.int .i64 59), .lit (.int .i64 3)], .agg [.lit (.int .i64 67), .lit (.int .i64 4)], .agg [.lit (.int .i64 83), .lit (.int .i64 4)], .agg [.lit (.int .i64 99), .lit (.int .i64 4)], .agg [.lit (.int .i64 115), .lit (.int .i64 4)], .agg [.lit (.int .i64 131), .lit (.int .i64 5)], .agg [.lit (.int .i64 163), .lit (.int .i64 5)], .agg [.lit (.int .i64 195), .lit (.int .i64 5)], .agg [.lit (.int .i64 227), .lit (.int .i64 5)], .agg [.lit (.int .i64 258), .lit (.int .i64 0)]]
def laid_inkwell_syms_distances {H : Type} : DataW H := .agg [.agg [.lit (.int .i64 1), .lit (.int .i64 0)], .agg [.lit (.int .i64 2), .lit (.int .i64 0)], .agg [.lit (.int .i64 3), .lit (.int .i64 0)], .agg [.lit (.int .i64 4), .lit (.int .i64 0)], .agg [.lit (.int .i64 5), .lit (.int .i64 1)], .agg [.lit (.int .i64 7), .lit (.int .i64 1)], .agg [.lit (.int .i64 9), .lit (.int .i64 2)], .agg [.lit (.int .i64 13), .lit (.int .i64 2)], .agg [.lit (.int .i64 17), .lit (.int .i64 3)], .agg [.lit (.int .i64 25), .lit (.int .i64 3)], .agg [.lit (.int .i64 33), .lit (.int .i64 4)], .agg [.lit (.int .i64 49), .lit (.int .i64 4)], .agg [.lit (.int .i64 65), .lit (.int .i64 5)], .agg [.lit (.int .i64 97), .lit (.int .i64 5)], .agg [.lit (.int .i64 129), .lit (.int .i64 6)], .agg [.lit (.int .i64 193), .lit (.int .i64 6)], .agg [.lit (.int .i64 257), .lit (.int .i64 7)], .agg [.lit (.int .i64 385), .lit (.int .i64 7)], .agg [.lit (.int .i64 513), .lit (.int .i64 8)], .agg [.lit (.int .i64 769), .lit (.int .i64 8)], .agg [.lit (.int .i64 1025), .lit (.int .i64 9)], .agg [.lit (.int .i64 1537), .lit (.int .i64 9)], .agg [.lit (.int .i64 2049), .lit (.int .i64 10)], .agg [.lit (.int .i64 3073), .lit (.int .i64 10)], .agg [.lit (.int .i64 4097), .lit (.int .i64 11)], .agg [.lit (.int .i64 6145), .lit (.int .i64 11)], .agg [.lit (.int .i64 8193), .lit (.int .i64 12)], .agg [.lit (.int .i64 12289), .lit (.int .i64 12)], .agg [.lit (.int .i64 16385), .lit (.int .i64 13)], .agg [.lit (.int .i64 24577), .lit (.int .i64 13)]]
def laid_inkwell_sha_keys {H : Type} : DataW H := .agg [.lit (.int .u32 1116352408), .lit (.int .u32 1899447441), .lit (.int .u32 3049323471), .lit (.int .u32 3921009573), .lit (.int .u32 961987163), .lit (.int .u32 1508970993), .lit (.int .u32 2453635748), .lit (.int .u32 2870763221), .lit (.int .u32 3624381080), .lit (.int .u32 310598401), .lit (.int .u32 607225278), .lit (.int .u32 1426881987), .lit (.int .u32 1925078388), .lit (.int .u32 2162078206), .lit (.int .u32 2614888103), .lit (.int .u32 3248222580), .lit (.int .u32 3835390401), .lit (.int .u32 4022224774), .lit (.int .u32 264347078), .lit (.int .u32 604807628), .lit (.int .u32 770255983), .lit (.int .u32 1249150122), .lit (.int .u32 1555081692), .lit (.int .u32 1996064986), .lit (.int .u32 2554220882), .lit (.int .u32 2821834349), .lit (.int .u32 2952996808), .lit (.int .u32 3210313671), .lit (.int .u32 3336571891), .lit (.int .u32 3584528711), .lit (.int .u32 113926993), .lit (.int .u32 338241895), .lit (.int .u32 666307205), .lit (.int .u32 773529912), .lit (.int .u32 1294757372), .lit (.int .u32 1396182291), .lit (.int .u32 1695183700), .lit (.int .u32 1986661051), .lit (.int .u32 2177026350), .lit (.int .u32 2456956037), .lit (.int .u32 2730485921), .lit (.int .u32 2820302411), .lit (.int .u32 3259730800), .lit (.int .u32 3345764771), .lit (.int .u32 3516065817), .lit (.int .u32 3600352804), .lit (.int .u32 4094571909), .lit (.int .u32 275423344), .lit (.int .u32 430227734), .lit (.int .u32 506948616), .lit (.int .u32 659060556), .lit (.int .u32 883997877), .lit (.int .u32 958139571), .lit (.int .u32 1322822218), .lit (.int .u32 1537002063), .lit (.int .u32 1747873779), .lit (.int .u32 1955562222), .lit (.int .u32 2024104815), .lit (.int .u32 2227730452), .lit (.int .u32 2361852424), .lit (.int .u32 2428436474), .lit (.int .u32 2756734187), .lit (.int .u32 3204031479), .lit (.int .u32 3329325298)]
def laid_inkwell_sha_begin {H : Type} : DataW H := .agg [.lit (.int .u32 1779033703), .lit (.int .u32 3144134277), .lit (.int .u32 1013904242), .lit (.int .u32 2773480762), .lit (.int .u32 1359893119), .lit (.int .u32 2600822924), .lit (.int .u32 528734635), .lit (.int .u32 1541459225)]
def laid_inkwell_codes_order {H : Type} : DataW H := .agg [.lit (.int .i64 16), .lit (.int .i64 17), .lit (.int .i64 18), .lit (.int .i64 0), .lit (.int .i64 8), .lit (.int .i64 7), .lit (.int .i64 9), .lit (.int .i64 6), .lit (.int .i64 10), .lit (.int .i64 5), .lit (.int .i64 11), .lit (.int .i64 4), .lit (.int .i64 12), .lit (.int .i64 3), .lit (.int .i64 13), .lit (.int .i64 2), .lit (.int .i64 14), .lit (.int .i64 1), .lit (.int .i64 15)]
def laid_inkwell_chunk_magic {H : Type} : DataW H := .agg [.lit (.int .u8 133), .lit (.int .u8 111), .lit (.int .u8 74), .lit (.int .u8 131)]

/-- 'inkwelllaw22.ChunkPuts': WHATEVER THE INPUT: true; the input reads as it did. -/
def chunkPutsSpec : ChangeSpec := { name := "chunkPuts", fn := fun _ => fun
  | [d1, d2, d3] => { results := [.lit (.bool true)], args := [d1, d2, d3] }
  | _ => none }
def chunkPutsRow : OpenClaim := { program := "ytendohnkhbgfbaadoor", sum := "62e46ed8aba9987a959f90e08af3c27be63b9a34de67fc13cad1a1a590870d68", func := "inkwell/inkwelllaw22.ChunkPuts", spec := "chunkPuts", unfollowed := true, recurses := true, named := ["inkwell/syms.lengths", "inkwell/syms.distances", "inkwell/codes.order", "inkwell/chunk.magic", "inkwell/sha.begin", "inkwell/sha.keys"], plainKeys := false, apart := false, laid := [("inkwell/syms.lengths", laid_inkwell_syms_lengths), ("inkwell/syms.distances", laid_inkwell_syms_distances), ("inkwell/sha.keys", laid_inkwell_sha_keys), ("inkwell/sha.begin", laid_inkwell_sha_begin), ("inkwell/codes.order", laid_inkwell_codes_order), ("inkwell/chunk.magic", laid_inkwell_chunk_magic)] }
def ChunkPutsSaid : Prop := chunkPutsRow.holds Tryd.pinned (OpenSpec.ofChange chunkPutsSpec)

/-- ITS FALSE NEIGHBOUR: 'it returns false'. Refute it at one input. -/
def chunkPutsWrong : ChangeSpec := { name := "chunkPuts", fn := fun _ => fun
  | [d1, d2, d3] => { results := [.lit (.bool false)], args := [d1, d2, d3] }
  | _ => none }
def ChunkPutsWrongFalsely : Prop := chunkPutsRow.holds Tryd.pinned (OpenSpec.ofChange chunkPutsWrong)

/-- 'inkwelllaw22.ChunkNexts': WHATEVER THE INPUT: true; the input reads as it did. -/
def chunkNextsSpec : ChangeSpec := { name := "chunkNexts", fn := fun _ => fun
  | [d] => { results := [.lit (.bool true)], args := [d] }
  | _ => none }
def chunkNextsRow : OpenClaim := { program := "ytendohnkhbgfbaadoor", sum := "62e46ed8aba9987a959f90e08af3c27be63b9a34de67fc13cad1a1a590870d68", func := "inkwell/inkwelllaw22.ChunkNexts", spec := "chunkNexts", unfollowed := true, recurses := true, named := ["inkwell/syms.lengths", "inkwell/syms.distances", "inkwell/codes.order", "inkwell/chunk.magic", "inkwell/sha.begin", "inkwell/sha.keys"], plainKeys := false, apart := false, laid := [("inkwell/syms.lengths", laid_inkwell_syms_lengths), ("inkwell/syms.distances", laid_inkwell_syms_distances), ("inkwell/sha.keys", laid_inkwell_sha_keys), ("inkwell/sha.begin", laid_inkwell_sha_begin), ("inkwell/codes.order", laid_inkwell_codes_order), ("inkwell/chunk.magic", laid_inkwell_chunk_magic)] }
def ChunkNextsSaid : Prop := chunkNextsRow.holds Tryd.pinned (OpenSpec.ofChange chunkNextsSpec)

/-- ITS FALSE NEIGHBOUR: 'it returns false'. Refute it at one input. -/
def chunkNextsWrong : ChangeSpec := { name := "chunkNexts", fn := fun _ => fun
  | [d] => { results := [.lit (.bool false)], args := [d] }
  | _ => none }
def ChunkNextsWrongFalsely : Prop := chunkNextsRow.holds Tryd.pinned (OpenSpec.ofChange chunkNextsWrong)

/-- 'inkwelllaw22.ChunkSums': WHATEVER THE INPUT: true; the input reads as it did. -/
def chunkSumsSpec : ChangeSpec := { name := "chunkSums", fn := fun _ => fun
  | [d1, d2, d3] => { results := [.lit (.bool true)], args := [d1, d2, d3] }
  | _ => none }
def chunkSumsRow : OpenClaim := { program := "ytendohnkhbgfbaadoor", sum := "62e46ed8aba9987a959f90e08af3c27be63b9a34de67fc13cad1a1a590870d68", func := "inkwell/inkwelllaw22.ChunkSums", spec := "chunkSums", unfollowed := true, recurses := true, named := ["inkwell/syms.lengths", "inkwell/syms.distances", "inkwell/codes.order", "inkwell/chunk.magic", "inkwell/sha.begin", "inkwell/sha.keys"], plainKeys := false, apart := false, laid := [("inkwell/syms.lengths", laid_inkwell_syms_lengths), ("inkwell/syms.distances", laid_inkwell_syms_distances), ("inkwell/sha.keys", laid_inkwell_sha_keys), ("inkwell/sha.begin", laid_inkwell_sha_begin), ("inkwell/codes.order", laid_inkwell_codes_order), ("inkwell/chunk.magic", laid_inkwell_chunk_magic)] }
def ChunkSumsSaid : Prop := chunkSumsRow.holds Tryd.pinned (OpenSpec.ofChange chunkSumsSpec)

/-- ITS FALSE NEIGHBOUR: 'it returns false'. Refute it at one input. -/
def chunkSumsWrong : ChangeSpec := { name := "chunkSums", fn := fun _ => fun
  | [d1, d2, d3] => { results := [.lit (.bool false)], args := [d1, d2, d3] }
  | _ => none }
def ChunkSumsWrongFalsely : Prop := chunkSumsRow.holds Tryd.pinned (OpenSpec.ofChange chunkSumsWrong)

/-- 'inkwelllaw22.ChunkBack': WHATEVER THE INPUT: true; the input reads as it did. -/
def chunkBackSpec : ChangeSpec := { name := "chunkBack", fn := fun _ => fun
  | [d1, d2, d3] => { results := [.lit (.bool true)], args := [d1, d2, d3] }
  | _ => none }
def chunkBackRow : OpenClaim := { program := "ytendohnkhbgfbaadoor", sum := "62e46ed8aba9987a959f90e08af3c27be63b9a34de67fc13cad1a1a590870d68", func := "inkwell/inkwelllaw22.ChunkBack", spec := "chunkBack", unfollowed := true, recurses := true, named := ["inkwell/syms.lengths", "inkwell/syms.distances", "inkwell/codes.order", "inkwell/chunk.magic", "inkwell/sha.begin", "inkwell/sha.keys"], plainKeys := false, apart := false, laid := [("inkwell/syms.lengths", laid_inkwell_syms_lengths), ("inkwell/syms.distances", laid_inkwell_syms_distances), ("inkwell/sha.keys", laid_inkwell_sha_keys), ("inkwell/sha.begin", laid_inkwell_sha_begin), ("inkwell/codes.order", laid_inkwell_codes_order), ("inkwell/chunk.magic", laid_inkwell_chunk_magic)] }
def ChunkBackSaid : Prop := chunkBackRow.holds Tryd.pinned (OpenSpec.ofChange chunkBackSpec)

/-- ITS FALSE NEIGHBOUR: 'it returns false'. Refute it at one input. -/
def chunkBackWrong : ChangeSpec := { name := "chunkBack", fn := fun _ => fun
  | [d1, d2, d3] => { results := [.lit (.bool false)], args := [d1, d2, d3] }
  | _ => none }
def ChunkBackWrongFalsely : Prop := chunkBackRow.holds Tryd.pinned (OpenSpec.ofChange chunkBackWrong)

/-- 'inkwelllaw22.ChunkMany': WHATEVER THE INPUT: true; the input reads as it did. -/
def chunkManySpec : ChangeSpec := { name := "chunkMany", fn := fun _ => fun
  | [d] => { results := [.lit (.bool true)], args := [d] }
  | _ => none }
def chunkManyRow : OpenClaim := { program := "ytendohnkhbgfbaadoor", sum := "62e46ed8aba9987a959f90e08af3c27be63b9a34de67fc13cad1a1a590870d68", func := "inkwell/inkwelllaw22.ChunkMany", spec := "chunkMany", unfollowed := true, recurses := true, named := ["inkwell/syms.lengths", "inkwell/syms.distances", "inkwell/codes.order", "inkwell/chunk.magic", "inkwell/sha.begin", "inkwell/sha.keys"], plainKeys := false, apart := false, laid := [("inkwell/syms.lengths", laid_inkwell_syms_lengths), ("inkwell/syms.distances", laid_inkwell_syms_distances), ("inkwell/sha.keys", laid_inkwell_sha_keys), ("inkwell/sha.begin", laid_inkwell_sha_begin), ("inkwell/codes.order", laid_inkwell_codes_order), ("inkwell/chunk.magic", laid_inkwell_chunk_magic)] }
def ChunkManySaid : Prop := chunkManyRow.holds Tryd.pinned (OpenSpec.ofChange chunkManySpec)

/-- ITS FALSE NEIGHBOUR: 'it returns false'. Refute it at one input. -/
def chunkManyWrong : ChangeSpec := { name := "chunkMany", fn := fun _ => fun
  | [d] => { results := [.lit (.bool false)], args := [d] }
  | _ => none }
def ChunkManyWrongFalsely : Prop := chunkManyRow.holds Tryd.pinned (OpenSpec.ofChange chunkManyWrong)

/- THE SECOND FORM. 'bulk': how many values and letters a reading holds, each counted each time it is reached (what is shared counts as often as it is met; a slice's spare places count too). A statement '..UptoSaid' is the law's where the arguments, and the package variables that the reading takes, are together of bulk at most 1048576: NARROWER than '..Said'. Prove '..Said' where nothing that the law and all that it calls make is longer than what came in: it says more and counts as full. Else prove '..UptoSaid'. A law counts once. -/
mutual
def uptoBulk {H : Type} : DataW H → Nat
  | .lit (.string bytes) => bytes.length + 1
  | .lit _ => 1
  | .nil => 1
  | .ptr d => uptoBulk d + 1
  | .slice elems spare => uptoBulkAll elems + uptoBulkAll spare + 1
  | .agg parts => uptoBulkAll parts + 1
  | .iface _ d => uptoBulk d + 1
  | .map entries => uptoBulkEntries entries + 1
  | .held _ => 1
def uptoBulkAll {H : Type} : List (DataW H) → Nat
  | [] => 0
  | d :: r => uptoBulk d + uptoBulkAll r
def uptoBulkEntries {H : Type} : List (Lit × DataW H) → Nat
  | [] => 0
  | x :: r => uptoBulkEntry x + uptoBulkEntries r
def uptoBulkEntry {H : Type} : Lit × DataW H → Nat
  | (.string bytes, d) => bytes.length + uptoBulk d + 1
  | (_, d) => uptoBulk d + 1
 end
def uptoSmall : (H : Type) → List (DataW H) → Bool := fun _ ds => decide (uptoBulkAll ds ≤ 1048576)
def OpenSpec.upto (s : _root_.Go.ChangeSpec) : _root_.Go.OpenSpec := { _root_.Go.OpenSpec.ofChange s with cond := some uptoSmall }

/-- 'inkwelllaw22.ChunkPuts', WHERE WHAT IT READS IS OF BULK AT MOST 1048576: true; the input reads as it did. -/
def chunkPutsUptoRow : OpenClaim := { program := "ytendohnkhbgfbaadoor", sum := "62e46ed8aba9987a959f90e08af3c27be63b9a34de67fc13cad1a1a590870d68", func := "inkwell/inkwelllaw22.ChunkPuts", spec := "chunkPuts", unfollowed := true, recurses := true, named := ["inkwell/syms.lengths", "inkwell/syms.distances", "inkwell/codes.order", "inkwell/chunk.magic", "inkwell/sha.begin", "inkwell/sha.keys"], plainKeys := false, apart := false, laid := [("inkwell/syms.lengths", laid_inkwell_syms_lengths), ("inkwell/syms.distances", laid_inkwell_syms_distances), ("inkwell/sha.keys", laid_inkwell_sha_keys), ("inkwell/sha.begin", laid_inkwell_sha_begin), ("inkwell/codes.order", laid_inkwell_codes_order), ("inkwell/chunk.magic", laid_inkwell_chunk_magic)], narrowed := true }
def ChunkPutsUptoSaid : Prop := chunkPutsUptoRow.holds Tryd.pinned (OpenSpec.upto chunkPutsSpec)

/-- 'inkwelllaw22.ChunkNexts', WHERE WHAT IT READS IS OF BULK AT MOST 1048576: true; the input reads as it did. -/
def chunkNextsUptoRow : OpenClaim := { program := "ytendohnkhbgfbaadoor", sum := "62e46ed8aba9987a959f90e08af3c27be63b9a34de67fc13cad1a1a590870d68", func := "inkwell/inkwelllaw22.ChunkNexts", spec := "chunkNexts", unfollowed := true, recurses := true, named := ["inkwell/syms.lengths", "inkwell/syms.distances", "inkwell/codes.order", "inkwell/chunk.magic", "inkwell/sha.begin", "inkwell/sha.keys"], plainKeys := false, apart := false, laid := [("inkwell/syms.lengths", laid_inkwell_syms_lengths), ("inkwell/syms.distances", laid_inkwell_syms_distances), ("inkwell/sha.keys", laid_inkwell_sha_keys), ("inkwell/sha.begin", laid_inkwell_sha_begin), ("inkwell/codes.order", laid_inkwell_codes_order), ("inkwell/chunk.magic", laid_inkwell_chunk_magic)], narrowed := true }
def ChunkNextsUptoSaid : Prop := chunkNextsUptoRow.holds Tryd.pinned (OpenSpec.upto chunkNextsSpec)

/-- 'inkwelllaw22.ChunkSums', WHERE WHAT IT READS IS OF BULK AT MOST 1048576: true; the input reads as it did. -/
def chunkSumsUptoRow : OpenClaim := { program := "ytendohnkhbgfbaadoor", sum := "62e46ed8aba9987a959f90e08af3c27be63b9a34de67fc13cad1a1a590870d68", func := "inkwell/inkwelllaw22.ChunkSums", spec := "chunkSums", unfollowed := true, recurses := true, named := ["inkwell/syms.lengths", "inkwell/syms.distances", "inkwell/codes.order", "inkwell/chunk.magic", "inkwell/sha.begin", "inkwell/sha.keys"], plainKeys := false, apart := false, laid := [("inkwell/syms.lengths", laid_inkwell_syms_lengths), ("inkwell/syms.distances", laid_inkwell_syms_distances), ("inkwell/sha.keys", laid_inkwell_sha_keys), ("inkwell/sha.begin", laid_inkwell_sha_begin), ("inkwell/codes.order", laid_inkwell_codes_order), ("inkwell/chunk.magic", laid_inkwell_chunk_magic)], narrowed := true }
def ChunkSumsUptoSaid : Prop := chunkSumsUptoRow.holds Tryd.pinned (OpenSpec.upto chunkSumsSpec)

/-- 'inkwelllaw22.ChunkBack', WHERE WHAT IT READS IS OF BULK AT MOST 1048576: true; the input reads as it did. -/
def chunkBackUptoRow : OpenClaim := { program := "ytendohnkhbgfbaadoor", sum := "62e46ed8aba9987a959f90e08af3c27be63b9a34de67fc13cad1a1a590870d68", func := "inkwell/inkwelllaw22.ChunkBack", spec := "chunkBack", unfollowed := true, recurses := true, named := ["inkwell/syms.lengths", "inkwell/syms.distances", "inkwell/codes.order", "inkwell/chunk.magic", "inkwell/sha.begin", "inkwell/sha.keys"], plainKeys := false, apart := false, laid := [("inkwell/syms.lengths", laid_inkwell_syms_lengths), ("inkwell/syms.distances", laid_inkwell_syms_distances), ("inkwell/sha.keys", laid_inkwell_sha_keys), ("inkwell/sha.begin", laid_inkwell_sha_begin), ("inkwell/codes.order", laid_inkwell_codes_order), ("inkwell/chunk.magic", laid_inkwell_chunk_magic)], narrowed := true }
def ChunkBackUptoSaid : Prop := chunkBackUptoRow.holds Tryd.pinned (OpenSpec.upto chunkBackSpec)

/-- 'inkwelllaw22.ChunkMany', WHERE WHAT IT READS IS OF BULK AT MOST 1048576: true; the input reads as it did. -/
def chunkManyUptoRow : OpenClaim := { program := "ytendohnkhbgfbaadoor", sum := "62e46ed8aba9987a959f90e08af3c27be63b9a34de67fc13cad1a1a590870d68", func := "inkwell/inkwelllaw22.ChunkMany", spec := "chunkMany", unfollowed := true, recurses := true, named := ["inkwell/syms.lengths", "inkwell/syms.distances", "inkwell/codes.order", "inkwell/chunk.magic", "inkwell/sha.begin", "inkwell/sha.keys"], plainKeys := false, apart := false, laid := [("inkwell/syms.lengths", laid_inkwell_syms_lengths), ("inkwell/syms.distances", laid_inkwell_syms_distances), ("inkwell/sha.keys", laid_inkwell_sha_keys), ("inkwell/sha.begin", laid_inkwell_sha_begin), ("inkwell/codes.order", laid_inkwell_codes_order), ("inkwell/chunk.magic", laid_inkwell_chunk_magic)], narrowed := true }
def ChunkManyUptoSaid : Prop := chunkManyUptoRow.holds Tryd.pinned (OpenSpec.upto chunkManySpec)

end Rows
end Go.Proofs.YtendohnkhbgfbaaDoor
