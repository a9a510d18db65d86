/-
  No cell of these rows narrows 'for every input' (looked for: loops, veiled, ifaces, maps, wideKeys, modest, calm, conditions, laid).
  DERIVED. THE GIVEN ROWS OF THIS SEAT. 7 by the template 'for every input the law returns true; each argument reads behind the call as it read before'; 0 by the template 'total and deterministic' (their statements: YtekhofnfikcpnaaTotals.lean).
  GIVEN WITH THE SEED: the statements are not yours to turn. If you find one false, say at which input.
  Laid BY PROGRAM, IN A SANDBOX (cutbox-rows.mjs): the forced cells as the released guide's own fill.sh prints them over the translation 3db401fdc6f8237b… (all of the seat's roots in one cut). By AI agents, Wed Nov 11 2026. No macro, syntax, notation, axiom, sorry.
-/
import Derived.Test.YtekhofnfikcpnaaChecked
import GoSem.Claim
import GoSem.ClaimJoined
import GoSem.ClaimMapViews
import Derived.JoinedTies
import Derived.KernelRfl
namespace Go.Proofs.Ytekhofnfikcpnaa
/- THE CELL 'sum', in the pinned program and in every row, IS THE sha256 OF THE DUMP (.gsa) THAT YtekhofnfikcpnaaProg.lean LOADS. Nothing in Lean hashes anything: it is a label: what it is worth is what the hold of that sum in a sandbox is worth. -/
noncomputable def Try.pinned : Pinned := { name := "ytekhofnfikcpnaa", sum := "3db401fdc6f8237bc531ab55a6e041e20057c77be65385c8364bd8f235dfcbd7", checked := Try.checked }
namespace Rows
def none {H : Type} : Left H := { results := [], args := [] }

/-- 'inkwelllaw18.ActorsTurned': WHATEVER THE INPUT: true; the input reads as it did. -/
def actorsTurnedSpec : ChangeSpec := { name := "actorsTurned", fn := fun _ => fun
  | [d1, d2] => { results := [.lit (.bool true)], args := [d1, d2] }
  | _ => none }
def actorsTurnedRow : OpenClaim := { program := "ytekhofnfikcpnaa", sum := "3db401fdc6f8237bc531ab55a6e041e20057c77be65385c8364bd8f235dfcbd7", func := "inkwell/inkwelllaw18.ActorsTurned", spec := "actorsTurned", recurses := true, apart := false }
def ActorsTurnedSaid : Prop := actorsTurnedRow.holds Try.pinned (OpenSpec.ofChange actorsTurnedSpec)

/-- ITS FALSE NEIGHBOUR: 'it returns false'. Refute it at one input. -/
def actorsTurnedWrong : ChangeSpec := { name := "actorsTurned", fn := fun _ => fun
  | [d1, d2] => { results := [.lit (.bool false)], args := [d1, d2] }
  | _ => none }
def ActorsTurnedWrongFalsely : Prop := actorsTurnedRow.holds Try.pinned (OpenSpec.ofChange actorsTurnedWrong)

/-- 'inkwelllaw18.ActorsTables': WHATEVER THE INPUT: true; the input reads as it did. -/
def actorsTablesSpec : ChangeSpec := { name := "actorsTables", fn := fun _ => fun
  | [d1, d2, d3] => { results := [.lit (.bool true)], args := [d1, d2, d3] }
  | _ => none }
def actorsTablesRow : OpenClaim := { program := "ytekhofnfikcpnaa", sum := "3db401fdc6f8237bc531ab55a6e041e20057c77be65385c8364bd8f235dfcbd7", func := "inkwell/inkwelllaw18.ActorsTables", spec := "actorsTables", recurses := true, apart := false }
def ActorsTablesSaid : Prop := actorsTablesRow.holds Try.pinned (OpenSpec.ofChange actorsTablesSpec)

/-- ITS FALSE NEIGHBOUR: 'it returns false'. Refute it at one input. -/
def actorsTablesWrong : ChangeSpec := { name := "actorsTables", fn := fun _ => fun
  | [d1, d2, d3] => { results := [.lit (.bool false)], args := [d1, d2, d3] }
  | _ => none }
def ActorsTablesWrongFalsely : Prop := actorsTablesRow.holds Try.pinned (OpenSpec.ofChange actorsTablesWrong)

/-- 'inkwelllaw18.ActorsAll': WHATEVER THE INPUT: true; the input reads as it did. -/
def actorsAllSpec : ChangeSpec := { name := "actorsAll", fn := fun _ => fun
  | [d1, d2] => { results := [.lit (.bool true)], args := [d1, d2] }
  | _ => none }
def actorsAllRow : OpenClaim := { program := "ytekhofnfikcpnaa", sum := "3db401fdc6f8237bc531ab55a6e041e20057c77be65385c8364bd8f235dfcbd7", func := "inkwell/inkwelllaw18.ActorsAll", spec := "actorsAll", recurses := true, apart := false }
def ActorsAllSaid : Prop := actorsAllRow.holds Try.pinned (OpenSpec.ofChange actorsAllSpec)

/-- ITS FALSE NEIGHBOUR: 'it returns false'. Refute it at one input. -/
def actorsAllWrong : ChangeSpec := { name := "actorsAll", fn := fun _ => fun
  | [d1, d2] => { results := [.lit (.bool false)], args := [d1, d2] }
  | _ => none }
def ActorsAllWrongFalsely : Prop := actorsAllRow.holds Try.pinned (OpenSpec.ofChange actorsAllWrong)

/-- 'inkwelllaw18.ActorsGets': WHATEVER THE INPUT: true; the input reads as it did. -/
def actorsGetsSpec : ChangeSpec := { name := "actorsGets", fn := fun _ => fun
  | [d1, d2] => { results := [.lit (.bool true)], args := [d1, d2] }
  | _ => none }
def actorsGetsRow : OpenClaim := { program := "ytekhofnfikcpnaa", sum := "3db401fdc6f8237bc531ab55a6e041e20057c77be65385c8364bd8f235dfcbd7", func := "inkwell/inkwelllaw18.ActorsGets", spec := "actorsGets", recurses := true, apart := false }
def ActorsGetsSaid : Prop := actorsGetsRow.holds Try.pinned (OpenSpec.ofChange actorsGetsSpec)

/-- ITS FALSE NEIGHBOUR: 'it returns false'. Refute it at one input. -/
def actorsGetsWrong : ChangeSpec := { name := "actorsGets", fn := fun _ => fun
  | [d1, d2] => { results := [.lit (.bool false)], args := [d1, d2] }
  | _ => none }
def ActorsGetsWrongFalsely : Prop := actorsGetsRow.holds Try.pinned (OpenSpec.ofChange actorsGetsWrong)

/-- 'inkwelllaw18.ActorsBack': WHATEVER THE INPUT: true; the input reads as it did. -/
def actorsBackSpec : ChangeSpec := { name := "actorsBack", fn := fun _ => fun
  | [d1, d2, d3, d4] => { results := [.lit (.bool true)], args := [d1, d2, d3, d4] }
  | _ => none }
def actorsBackRow : OpenClaim := { program := "ytekhofnfikcpnaa", sum := "3db401fdc6f8237bc531ab55a6e041e20057c77be65385c8364bd8f235dfcbd7", func := "inkwell/inkwelllaw18.ActorsBack", spec := "actorsBack", recurses := true, apart := false }
def ActorsBackSaid : Prop := actorsBackRow.holds Try.pinned (OpenSpec.ofChange actorsBackSpec)

/-- ITS FALSE NEIGHBOUR: 'it returns false'. Refute it at one input. -/
def actorsBackWrong : ChangeSpec := { name := "actorsBack", fn := fun _ => fun
  | [d1, d2, d3, d4] => { results := [.lit (.bool false)], args := [d1, d2, d3, d4] }
  | _ => none }
def ActorsBackWrongFalsely : Prop := actorsBackRow.holds Try.pinned (OpenSpec.ofChange actorsBackWrong)

/-- 'inkwelllaw19.ColsPuts': WHATEVER THE INPUT: true; the input reads as it did. -/
def colsPutsSpec : ChangeSpec := { name := "colsPuts", fn := fun _ => fun
  | [d1, d2] => { results := [.lit (.bool true)], args := [d1, d2] }
  | _ => none }
def colsPutsRow : OpenClaim := { program := "ytekhofnfikcpnaa", sum := "3db401fdc6f8237bc531ab55a6e041e20057c77be65385c8364bd8f235dfcbd7", func := "inkwell/inkwelllaw19.ColsPuts", spec := "colsPuts", unfollowed := true, recurses := true, apart := false }
def ColsPutsSaid : Prop := colsPutsRow.holds Try.pinned (OpenSpec.ofChange colsPutsSpec)

/-- ITS FALSE NEIGHBOUR: 'it returns false'. Refute it at one input. -/
def colsPutsWrong : ChangeSpec := { name := "colsPuts", fn := fun _ => fun
  | [d1, d2] => { results := [.lit (.bool false)], args := [d1, d2] }
  | _ => none }
def ColsPutsWrongFalsely : Prop := colsPutsRow.holds Try.pinned (OpenSpec.ofChange colsPutsWrong)

/-- 'inkwelllaw19.ColsRise': WHATEVER THE INPUT: true; the input reads as it did. -/
def colsRiseSpec : ChangeSpec := { name := "colsRise", fn := fun _ => fun
  | [d1, d2] => { results := [.lit (.bool true)], args := [d1, d2] }
  | _ => none }
def colsRiseRow : OpenClaim := { program := "ytekhofnfikcpnaa", sum := "3db401fdc6f8237bc531ab55a6e041e20057c77be65385c8364bd8f235dfcbd7", func := "inkwell/inkwelllaw19.ColsRise", spec := "colsRise", unfollowed := true, recurses := true, apart := false }
def ColsRiseSaid : Prop := colsRiseRow.holds Try.pinned (OpenSpec.ofChange colsRiseSpec)

/-- ITS FALSE NEIGHBOUR: 'it returns false'. Refute it at one input. -/
def colsRiseWrong : ChangeSpec := { name := "colsRise", fn := fun _ => fun
  | [d1, d2] => { results := [.lit (.bool false)], args := [d1, d2] }
  | _ => none }
def ColsRiseWrongFalsely : Prop := colsRiseRow.holds Try.pinned (OpenSpec.ofChange colsRiseWrong)

/- THE SECOND FORM. 'bulk': how many values and letters a reading holds, each counted each time it is reached (what is shared counts as often as it is met; a slice's spare places count too). A statement '..UptoSaid' is the law's where the arguments, and the package variables that the reading takes, are together of bulk at most 1048576: NARROWER than '..Said'. Prove '..Said' where nothing that the law and all that it calls make is longer than what came in: it says more and counts as full. Else prove '..UptoSaid'. A law counts once. -/
mutual
def uptoBulk {H : Type} : DataW H → Nat
  | .lit (.string bytes) => bytes.length + 1
  | .lit _ => 1
  | .nil => 1
  | .ptr d => uptoBulk d + 1
  | .slice elems spare => uptoBulkAll elems + uptoBulkAll spare + 1
  | .agg parts => uptoBulkAll parts + 1
  | .iface _ d => uptoBulk d + 1
  | .map entries => uptoBulkEntries entries + 1
  | .held _ => 1
def uptoBulkAll {H : Type} : List (DataW H) → Nat
  | [] => 0
  | d :: r => uptoBulk d + uptoBulkAll r
def uptoBulkEntries {H : Type} : List (Lit × DataW H) → Nat
  | [] => 0
  | x :: r => uptoBulkEntry x + uptoBulkEntries r
def uptoBulkEntry {H : Type} : Lit × DataW H → Nat
  | (.string bytes, d) => bytes.length + uptoBulk d + 1
  | (_, d) => uptoBulk d + 1
 end
def uptoSmall : (H : Type) → List (DataW H) → Bool := fun _ ds => decide (uptoBulkAll ds ≤ 1048576)
def OpenSpec.upto (s : _root_.Go.ChangeSpec) : _root_.Go.OpenSpec := { _root_.Go.OpenSpec.ofChange s with cond := some uptoSmall }

/-- 'inkwelllaw18.ActorsTurned', WHERE WHAT IT READS IS OF BULK AT MOST 1048576: true; the input reads as it did. -/
def actorsTurnedUptoRow : OpenClaim := { program := "ytekhofnfikcpnaa", sum := "3db401fdc6f8237bc531ab55a6e041e20057c77be65385c8364bd8f235dfcbd7", func := "inkwell/inkwelllaw18.ActorsTurned", spec := "actorsTurned", recurses := true, apart := false, narrowed := true }
def ActorsTurnedUptoSaid : Prop := actorsTurnedUptoRow.holds Try.pinned (OpenSpec.upto actorsTurnedSpec)

/-- 'inkwelllaw18.ActorsTables', WHERE WHAT IT READS IS OF BULK AT MOST 1048576: true; the input reads as it did. -/
def actorsTablesUptoRow : OpenClaim := { program := "ytekhofnfikcpnaa", sum := "3db401fdc6f8237bc531ab55a6e041e20057c77be65385c8364bd8f235dfcbd7", func := "inkwell/inkwelllaw18.ActorsTables", spec := "actorsTables", recurses := true, apart := false, narrowed := true }
def ActorsTablesUptoSaid : Prop := actorsTablesUptoRow.holds Try.pinned (OpenSpec.upto actorsTablesSpec)

/-- 'inkwelllaw18.ActorsAll', WHERE WHAT IT READS IS OF BULK AT MOST 1048576: true; the input reads as it did. -/
def actorsAllUptoRow : OpenClaim := { program := "ytekhofnfikcpnaa", sum := "3db401fdc6f8237bc531ab55a6e041e20057c77be65385c8364bd8f235dfcbd7", func := "inkwell/inkwelllaw18.ActorsAll", spec := "actorsAll", recurses := true, apart := false, narrowed := true }
def ActorsAllUptoSaid : Prop := actorsAllUptoRow.holds Try.pinned (OpenSpec.upto actorsAllSpec)

/-- 'inkwelllaw18.ActorsGets', WHERE WHAT IT READS IS OF BULK AT MOST 1048576: true; the input reads as it did. -/
def actorsGetsUptoRow : OpenClaim := { program := "ytekhofnfikcpnaa", sum := "3db401fdc6f8237bc531ab55a6e041e20057c77be65385c8364bd8f235dfcbd7", func := "inkwell/inkwelllaw18.ActorsGets", spec := "actorsGets", recurses := true, apart := false, narrowed := true }
def ActorsGetsUptoSaid : Prop := actorsGetsUptoRow.holds Try.pinned (OpenSpec.upto actorsGetsSpec)

/-- 'inkwelllaw18.ActorsBack', WHERE WHAT IT READS IS OF BULK AT MOST 1048576: true; the input reads as it did. -/
def actorsBackUptoRow : OpenClaim := { program := "ytekhofnfikcpnaa", sum := "3db401fdc6f8237bc531ab55a6e041e20057c77be65385c8364bd8f235dfcbd7", func := "inkwell/inkwelllaw18.ActorsBack", spec := "actorsBack", recurses := true, apart := false, narrowed := true }
def ActorsBackUptoSaid : Prop := actorsBackUptoRow.holds Try.pinned (OpenSpec.upto actorsBackSpec)

/-- 'inkwelllaw19.ColsPuts', WHERE WHAT IT READS IS OF BULK AT MOST 1048576: true; the input reads as it did. -/
def colsPutsUptoRow : OpenClaim := { program := "ytekhofnfikcpnaa", sum := "3db401fdc6f8237bc531ab55a6e041e20057c77be65385c8364bd8f235dfcbd7", func := "inkwell/inkwelllaw19.ColsPuts", spec := "colsPuts", unfollowed := true, recurses := true, apart := false, narrowed := true }
def ColsPutsUptoSaid : Prop := colsPutsUptoRow.holds Try.pinned (OpenSpec.upto colsPutsSpec)

/-- 'inkwelllaw19.ColsRise', WHERE WHAT IT READS IS OF BULK AT MOST 1048576: true; the input reads as it did. -/
def colsRiseUptoRow : OpenClaim := { program := "ytekhofnfikcpnaa", sum := "3db401fdc6f8237bc531ab55a6e041e20057c77be65385c8364bd8f235dfcbd7", func := "inkwell/inkwelllaw19.ColsRise", spec := "colsRise", unfollowed := true, recurses := true, apart := false, narrowed := true }
def ColsRiseUptoSaid : Prop := colsRiseUptoRow.holds Try.pinned (OpenSpec.upto colsRiseSpec)

end Rows
end Go.Proofs.Ytekhofnfikcpnaa
