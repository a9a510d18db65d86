/-
  No cell of these rows narrows 'for every input' (looked for: loops, veiled, ifaces, maps, wideKeys, modest, calm, conditions, laid).
  DERIVED. THE GIVEN ROWS OF THIS SEAT. 6 by the template 'for every input the law returns true; each argument reads behind the call as it read before'; 0 by the template 'total and deterministic' (their statements: YtdbkbeojedndbaaTotals.lean).
  GIVEN WITH THE SEED: the statements are not yours to turn. If you find one false, say at which input.
  Laid BY PROGRAM, IN A SANDBOX (cutbox-rows.mjs): the forced cells as the released guide's own fill.sh prints them over the translation b8a062ce68e8027a… (all of the seat's roots in one cut). By AI agents, Wed Nov 11 2026. No macro, syntax, notation, axiom, sorry.
-/
import Derived.Test.YtdbkbeojedndbaaChecked
import GoSem.Claim
import GoSem.ClaimJoined
import GoSem.ClaimMapViews
import Derived.JoinedTies
import Derived.KernelRfl
namespace Go.Proofs.Ytdbkbeojedndbaa
/- THE CELL 'sum', in the pinned program and in every row, IS THE sha256 OF THE DUMP (.gsa) THAT YtdbkbeojedndbaaProg.lean LOADS. Nothing in Lean hashes anything: it is a label: what it is worth is what the hold of that sum in a sandbox is worth. -/
noncomputable def Try.pinned : Pinned := { name := "ytdbkbeojedndbaa", sum := "b8a062ce68e8027a1b7c8b1694214b8ad2ae3ee36dd4a31cc76f6e8f66195f9d", checked := Try.checked }
namespace Rows
def none {H : Type} : Left H := { results := [], args := [] }

/-- 'inkwelllaw20.HeadGets': WHATEVER THE INPUT: true; the input reads as it did. -/
def headGetsSpec : ChangeSpec := { name := "headGets", fn := fun _ => fun
  | [d] => { results := [.lit (.bool true)], args := [d] }
  | _ => none }
def headGetsRow : OpenClaim := { program := "ytdbkbeojedndbaa", sum := "b8a062ce68e8027a1b7c8b1694214b8ad2ae3ee36dd4a31cc76f6e8f66195f9d", func := "inkwell/inkwelllaw20.HeadGets", spec := "headGets", inPlace := ["internal/bytealg.Compare"], recurses := true, apart := false }
def HeadGetsSaid : Prop := headGetsRow.holds Try.pinned (OpenSpec.ofChange headGetsSpec)

/-- ITS FALSE NEIGHBOUR: 'it returns false'. Refute it at one input. -/
def headGetsWrong : ChangeSpec := { name := "headGets", fn := fun _ => fun
  | [d] => { results := [.lit (.bool false)], args := [d] }
  | _ => none }
def HeadGetsWrongFalsely : Prop := headGetsRow.holds Try.pinned (OpenSpec.ofChange headGetsWrong)

/-- 'inkwelllaw20.HeadBack': WHATEVER THE INPUT: true; the input reads as it did. -/
def headBackSpec : ChangeSpec := { name := "headBack", fn := fun _ => fun
  | [d1, d2, d3] => { results := [.lit (.bool true)], args := [d1, d2, d3] }
  | _ => none }
def headBackRow : OpenClaim := { program := "ytdbkbeojedndbaa", sum := "b8a062ce68e8027a1b7c8b1694214b8ad2ae3ee36dd4a31cc76f6e8f66195f9d", func := "inkwell/inkwelllaw20.HeadBack", spec := "headBack", inPlace := ["internal/bytealg.Compare"], recurses := true, apart := false }
def HeadBackSaid : Prop := headBackRow.holds Try.pinned (OpenSpec.ofChange headBackSpec)

/-- ITS FALSE NEIGHBOUR: 'it returns false'. Refute it at one input. -/
def headBackWrong : ChangeSpec := { name := "headBack", fn := fun _ => fun
  | [d1, d2, d3] => { results := [.lit (.bool false)], args := [d1, d2, d3] }
  | _ => none }
def HeadBackWrongFalsely : Prop := headBackRow.holds Try.pinned (OpenSpec.ofChange headBackWrong)

/-- 'inkwelllaw20.HeadOnce': WHATEVER THE INPUT: true; the input reads as it did. -/
def headOnceSpec : ChangeSpec := { name := "headOnce", fn := fun _ => fun
  | [d] => { results := [.lit (.bool true)], args := [d] }
  | _ => none }
def headOnceRow : OpenClaim := { program := "ytdbkbeojedndbaa", sum := "b8a062ce68e8027a1b7c8b1694214b8ad2ae3ee36dd4a31cc76f6e8f66195f9d", func := "inkwell/inkwelllaw20.HeadOnce", spec := "headOnce", inPlace := ["internal/bytealg.Compare"], recurses := true, apart := false }
def HeadOnceSaid : Prop := headOnceRow.holds Try.pinned (OpenSpec.ofChange headOnceSpec)

/-- ITS FALSE NEIGHBOUR: 'it returns false'. Refute it at one input. -/
def headOnceWrong : ChangeSpec := { name := "headOnce", fn := fun _ => fun
  | [d] => { results := [.lit (.bool false)], args := [d] }
  | _ => none }
def HeadOnceWrongFalsely : Prop := headOnceRow.holds Try.pinned (OpenSpec.ofChange headOnceWrong)

/-- 'inkwelllaw20.HeadTimes': WHATEVER THE INPUT: true; the input reads as it did. -/
def headTimesSpec : ChangeSpec := { name := "headTimes", fn := fun _ => fun
  | [d1, d2, d3] => { results := [.lit (.bool true)], args := [d1, d2, d3] }
  | _ => none }
def headTimesRow : OpenClaim := { program := "ytdbkbeojedndbaa", sum := "b8a062ce68e8027a1b7c8b1694214b8ad2ae3ee36dd4a31cc76f6e8f66195f9d", func := "inkwell/inkwelllaw20.HeadTimes", spec := "headTimes", inPlace := ["internal/bytealg.Compare"], recurses := true, apart := false }
def HeadTimesSaid : Prop := headTimesRow.holds Try.pinned (OpenSpec.ofChange headTimesSpec)

/-- ITS FALSE NEIGHBOUR: 'it returns false'. Refute it at one input. -/
def headTimesWrong : ChangeSpec := { name := "headTimes", fn := fun _ => fun
  | [d1, d2, d3] => { results := [.lit (.bool false)], args := [d1, d2, d3] }
  | _ => none }
def HeadTimesWrongFalsely : Prop := headTimesRow.holds Try.pinned (OpenSpec.ofChange headTimesWrong)

/-- 'inkwelllaw19.ColsPuts': WHATEVER THE INPUT: true; the input reads as it did. -/
def colsPutsSpec : ChangeSpec := { name := "colsPuts", fn := fun _ => fun
  | [d1, d2] => { results := [.lit (.bool true)], args := [d1, d2] }
  | _ => none }
def colsPutsRow : OpenClaim := { program := "ytdbkbeojedndbaa", sum := "b8a062ce68e8027a1b7c8b1694214b8ad2ae3ee36dd4a31cc76f6e8f66195f9d", func := "inkwell/inkwelllaw19.ColsPuts", spec := "colsPuts", unfollowed := true, recurses := true, apart := false }
def ColsPutsSaid : Prop := colsPutsRow.holds Try.pinned (OpenSpec.ofChange colsPutsSpec)

/-- ITS FALSE NEIGHBOUR: 'it returns false'. Refute it at one input. -/
def colsPutsWrong : ChangeSpec := { name := "colsPuts", fn := fun _ => fun
  | [d1, d2] => { results := [.lit (.bool false)], args := [d1, d2] }
  | _ => none }
def ColsPutsWrongFalsely : Prop := colsPutsRow.holds Try.pinned (OpenSpec.ofChange colsPutsWrong)

/-- 'inkwelllaw19.ColsRise': WHATEVER THE INPUT: true; the input reads as it did. -/
def colsRiseSpec : ChangeSpec := { name := "colsRise", fn := fun _ => fun
  | [d1, d2] => { results := [.lit (.bool true)], args := [d1, d2] }
  | _ => none }
def colsRiseRow : OpenClaim := { program := "ytdbkbeojedndbaa", sum := "b8a062ce68e8027a1b7c8b1694214b8ad2ae3ee36dd4a31cc76f6e8f66195f9d", func := "inkwell/inkwelllaw19.ColsRise", spec := "colsRise", unfollowed := true, recurses := true, apart := false }
def ColsRiseSaid : Prop := colsRiseRow.holds Try.pinned (OpenSpec.ofChange colsRiseSpec)

/-- ITS FALSE NEIGHBOUR: 'it returns false'. Refute it at one input. -/
def colsRiseWrong : ChangeSpec := { name := "colsRise", fn := fun _ => fun
  | [d1, d2] => { results := [.lit (.bool false)], args := [d1, d2] }
  | _ => none }
def ColsRiseWrongFalsely : Prop := colsRiseRow.holds Try.pinned (OpenSpec.ofChange colsRiseWrong)

/- THE SECOND FORM. 'bulk': how many values and letters a reading holds, each counted each time it is reached (what is shared counts as often as it is met; a slice's spare places count too). A statement '..UptoSaid' is the law's where the arguments, and the package variables that the reading takes, are together of bulk at most 1048576: NARROWER than '..Said'. Prove '..Said' where nothing that the law and all that it calls make is longer than what came in: it says more and counts as full. Else prove '..UptoSaid'. A law counts once. -/
mutual
def uptoBulk {H : Type} : DataW H → Nat
  | .lit (.string bytes) => bytes.length + 1
  | .lit _ => 1
  | .nil => 1
  | .ptr d => uptoBulk d + 1
  | .slice elems spare => uptoBulkAll elems + uptoBulkAll spare + 1
  | .agg parts => uptoBulkAll parts + 1
  | .iface _ d => uptoBulk d + 1
  | .map entries => uptoBulkEntries entries + 1
  | .held _ => 1
def uptoBulkAll {H : Type} : List (DataW H) → Nat
  | [] => 0
  | d :: r => uptoBulk d + uptoBulkAll r
def uptoBulkEntries {H : Type} : List (Lit × DataW H) → Nat
  | [] => 0
  | x :: r => uptoBulkEntry x + uptoBulkEntries r
def uptoBulkEntry {H : Type} : Lit × DataW H → Nat
  | (.string bytes, d) => bytes.length + uptoBulk d + 1
  | (_, d) => uptoBulk d + 1
 end
def uptoSmall : (H : Type) → List (DataW H) → Bool := fun _ ds => decide (uptoBulkAll ds ≤ 1048576)
def OpenSpec.upto (s : _root_.Go.ChangeSpec) : _root_.Go.OpenSpec := { _root_.Go.OpenSpec.ofChange s with cond := some uptoSmall }

/-- 'inkwelllaw20.HeadGets', WHERE WHAT IT READS IS OF BULK AT MOST 1048576: true; the input reads as it did. -/
def headGetsUptoRow : OpenClaim := { program := "ytdbkbeojedndbaa", sum := "b8a062ce68e8027a1b7c8b1694214b8ad2ae3ee36dd4a31cc76f6e8f66195f9d", func := "inkwell/inkwelllaw20.HeadGets", spec := "headGets", inPlace := ["internal/bytealg.Compare"], recurses := true, apart := false, narrowed := true }
def HeadGetsUptoSaid : Prop := headGetsUptoRow.holds Try.pinned (OpenSpec.upto headGetsSpec)

/-- 'inkwelllaw20.HeadBack', WHERE WHAT IT READS IS OF BULK AT MOST 1048576: true; the input reads as it did. -/
def headBackUptoRow : OpenClaim := { program := "ytdbkbeojedndbaa", sum := "b8a062ce68e8027a1b7c8b1694214b8ad2ae3ee36dd4a31cc76f6e8f66195f9d", func := "inkwell/inkwelllaw20.HeadBack", spec := "headBack", inPlace := ["internal/bytealg.Compare"], recurses := true, apart := false, narrowed := true }
def HeadBackUptoSaid : Prop := headBackUptoRow.holds Try.pinned (OpenSpec.upto headBackSpec)

/-- 'inkwelllaw20.HeadOnce', WHERE WHAT IT READS IS OF BULK AT MOST 1048576: true; the input reads as it did. -/
def headOnceUptoRow : OpenClaim := { program := "ytdbkbeojedndbaa", sum := "b8a062ce68e8027a1b7c8b1694214b8ad2ae3ee36dd4a31cc76f6e8f66195f9d", func := "inkwell/inkwelllaw20.HeadOnce", spec := "headOnce", inPlace := ["internal/bytealg.Compare"], recurses := true, apart := false, narrowed := true }
def HeadOnceUptoSaid : Prop := headOnceUptoRow.holds Try.pinned (OpenSpec.upto headOnceSpec)

/-- 'inkwelllaw20.HeadTimes', WHERE WHAT IT READS IS OF BULK AT MOST 1048576: true; the input reads as it did. -/
def headTimesUptoRow : OpenClaim := { program := "ytdbkbeojedndbaa", sum := "b8a062ce68e8027a1b7c8b1694214b8ad2ae3ee36dd4a31cc76f6e8f66195f9d", func := "inkwell/inkwelllaw20.HeadTimes", spec := "headTimes", inPlace := ["internal/bytealg.Compare"], recurses := true, apart := false, narrowed := true }
def HeadTimesUptoSaid : Prop := headTimesUptoRow.holds Try.pinned (OpenSpec.upto headTimesSpec)

/-- 'inkwelllaw19.ColsPuts', WHERE WHAT IT READS IS OF BULK AT MOST 1048576: true; the input reads as it did. -/
def colsPutsUptoRow : OpenClaim := { program := "ytdbkbeojedndbaa", sum := "b8a062ce68e8027a1b7c8b1694214b8ad2ae3ee36dd4a31cc76f6e8f66195f9d", func := "inkwell/inkwelllaw19.ColsPuts", spec := "colsPuts", unfollowed := true, recurses := true, apart := false, narrowed := true }
def ColsPutsUptoSaid : Prop := colsPutsUptoRow.holds Try.pinned (OpenSpec.upto colsPutsSpec)

/-- 'inkwelllaw19.ColsRise', WHERE WHAT IT READS IS OF BULK AT MOST 1048576: true; the input reads as it did. -/
def colsRiseUptoRow : OpenClaim := { program := "ytdbkbeojedndbaa", sum := "b8a062ce68e8027a1b7c8b1694214b8ad2ae3ee36dd4a31cc76f6e8f66195f9d", func := "inkwell/inkwelllaw19.ColsRise", spec := "colsRise", unfollowed := true, recurses := true, apart := false, narrowed := true }
def ColsRiseUptoSaid : Prop := colsRiseUptoRow.holds Try.pinned (OpenSpec.upto colsRiseSpec)

end Rows
end Go.Proofs.Ytdbkbeojedndbaa
