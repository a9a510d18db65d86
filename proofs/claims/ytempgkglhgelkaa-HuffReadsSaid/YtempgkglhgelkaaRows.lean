/-
  No cell of these rows narrows 'for every input' (looked for: loops, veiled, ifaces, maps, wideKeys, modest, calm, conditions, laid).
  DERIVED. THE GIVEN ROWS OF THIS SEAT. 8 by the template 'for every input the law returns true; each argument reads behind the call as it read before'; 0 by the template 'total and deterministic' (their statements: YtempgkglhgelkaaTotals.lean).
  GIVEN WITH THE SEED: the statements are not yours to turn. If you find one false, say at which input.
  Laid BY PROGRAM, IN A SANDBOX (cutbox-rows.mjs): the forced cells as the released guide's own fill.sh prints them over the translation eb3a7428db07e258… (all of the seat's roots in one cut). By AI agents, Wed Nov 11 2026. No macro, syntax, notation, axiom, sorry.
-/
import Derived.Test.YtempgkglhgelkaaChecked
import GoSem.Claim
import GoSem.ClaimJoined
import GoSem.ClaimMapViews
import Derived.JoinedTies
import Derived.KernelRfl
namespace Go.Proofs.Ytempgkglhgelkaa
/- THE CELL 'sum', in the pinned program and in every row, IS THE sha256 OF THE DUMP (.gsa) THAT YtempgkglhgelkaaProg.lean LOADS. Nothing in Lean hashes anything: it is a label: what it is worth is what the hold of that sum in a sandbox is worth. -/
noncomputable def Try.pinned : Pinned := { name := "ytempgkglhgelkaa", sum := "eb3a7428db07e2583234fb18b1be9a60f8bb4220fe7a9f2ef1d5fb3d89412692", checked := Try.checked }
namespace Rows
def none {H : Type} : Left H := { results := [], args := [] }

/-- 'inkwelllaw08.CodesPresses': WHATEVER THE INPUT: true; the input reads as it did. -/
def codesPressesSpec : ChangeSpec := { name := "codesPresses", fn := fun _ => fun
  | [d] => { results := [.lit (.bool true)], args := [d] }
  | _ => none }
def codesPressesRow : OpenClaim := { program := "ytempgkglhgelkaa", sum := "eb3a7428db07e2583234fb18b1be9a60f8bb4220fe7a9f2ef1d5fb3d89412692", func := "inkwell/inkwelllaw08.CodesPresses", spec := "codesPresses", apart := false }
def CodesPressesSaid : Prop := codesPressesRow.holds Try.pinned (OpenSpec.ofChange codesPressesSpec)

/-- ITS FALSE NEIGHBOUR: 'it returns false'. Refute it at one input. -/
def codesPressesWrong : ChangeSpec := { name := "codesPresses", fn := fun _ => fun
  | [d] => { results := [.lit (.bool false)], args := [d] }
  | _ => none }
def CodesPressesWrongFalsely : Prop := codesPressesRow.holds Try.pinned (OpenSpec.ofChange codesPressesWrong)

/-- 'inkwelllaw08.CodesSays': WHATEVER THE INPUT: true; the input reads as it did. -/
def codesSaysSpec : ChangeSpec := { name := "codesSays", fn := fun _ => fun
  | [d] => { results := [.lit (.bool true)], args := [d] }
  | _ => none }
def codesSaysRow : OpenClaim := { program := "ytempgkglhgelkaa", sum := "eb3a7428db07e2583234fb18b1be9a60f8bb4220fe7a9f2ef1d5fb3d89412692", func := "inkwell/inkwelllaw08.CodesSays", spec := "codesSays", apart := false }
def CodesSaysSaid : Prop := codesSaysRow.holds Try.pinned (OpenSpec.ofChange codesSaysSpec)

/-- ITS FALSE NEIGHBOUR: 'it returns false'. Refute it at one input. -/
def codesSaysWrong : ChangeSpec := { name := "codesSays", fn := fun _ => fun
  | [d] => { results := [.lit (.bool false)], args := [d] }
  | _ => none }
def CodesSaysWrongFalsely : Prop := codesSaysRow.holds Try.pinned (OpenSpec.ofChange codesSaysWrong)

/-- 'inkwelllaw08.CodesFew': WHATEVER THE INPUT: true; the input reads as it did. -/
def codesFewSpec : ChangeSpec := { name := "codesFew", fn := fun _ => fun
  | [d1, d2, d3] => { results := [.lit (.bool true)], args := [d1, d2, d3] }
  | _ => none }
def codesFewRow : OpenClaim := { program := "ytempgkglhgelkaa", sum := "eb3a7428db07e2583234fb18b1be9a60f8bb4220fe7a9f2ef1d5fb3d89412692", func := "inkwell/inkwelllaw08.CodesFew", spec := "codesFew", apart := false }
def CodesFewSaid : Prop := codesFewRow.holds Try.pinned (OpenSpec.ofChange codesFewSpec)

/-- ITS FALSE NEIGHBOUR: 'it returns false'. Refute it at one input. -/
def codesFewWrong : ChangeSpec := { name := "codesFew", fn := fun _ => fun
  | [d1, d2, d3] => { results := [.lit (.bool false)], args := [d1, d2, d3] }
  | _ => none }
def CodesFewWrongFalsely : Prop := codesFewRow.holds Try.pinned (OpenSpec.ofChange codesFewWrong)

/-- 'inkwelllaw05.HuffLengths': WHATEVER THE INPUT: true; the input reads as it did. -/
def huffLengthsSpec : ChangeSpec := { name := "huffLengths", fn := fun _ => fun
  | [d1, d2] => { results := [.lit (.bool true)], args := [d1, d2] }
  | _ => none }
def huffLengthsRow : OpenClaim := { program := "ytempgkglhgelkaa", sum := "eb3a7428db07e2583234fb18b1be9a60f8bb4220fe7a9f2ef1d5fb3d89412692", func := "inkwell/inkwelllaw05.HuffLengths", spec := "huffLengths", unfollowed := true, recurses := true, apart := false }
def HuffLengthsSaid : Prop := huffLengthsRow.holds Try.pinned (OpenSpec.ofChange huffLengthsSpec)

/-- ITS FALSE NEIGHBOUR: 'it returns false'. Refute it at one input. -/
def huffLengthsWrong : ChangeSpec := { name := "huffLengths", fn := fun _ => fun
  | [d1, d2] => { results := [.lit (.bool false)], args := [d1, d2] }
  | _ => none }
def HuffLengthsWrongFalsely : Prop := huffLengthsRow.holds Try.pinned (OpenSpec.ofChange huffLengthsWrong)

/-- 'inkwelllaw05.HuffZero': WHATEVER THE INPUT: true; the input reads as it did. -/
def huffZeroSpec : ChangeSpec := { name := "huffZero", fn := fun _ => fun
  | [d1, d2, d3] => { results := [.lit (.bool true)], args := [d1, d2, d3] }
  | _ => none }
def huffZeroRow : OpenClaim := { program := "ytempgkglhgelkaa", sum := "eb3a7428db07e2583234fb18b1be9a60f8bb4220fe7a9f2ef1d5fb3d89412692", func := "inkwell/inkwelllaw05.HuffZero", spec := "huffZero", unfollowed := true, recurses := true, apart := false }
def HuffZeroSaid : Prop := huffZeroRow.holds Try.pinned (OpenSpec.ofChange huffZeroSpec)

/-- ITS FALSE NEIGHBOUR: 'it returns false'. Refute it at one input. -/
def huffZeroWrong : ChangeSpec := { name := "huffZero", fn := fun _ => fun
  | [d1, d2, d3] => { results := [.lit (.bool false)], args := [d1, d2, d3] }
  | _ => none }
def HuffZeroWrongFalsely : Prop := huffZeroRow.holds Try.pinned (OpenSpec.ofChange huffZeroWrong)

/-- 'inkwelllaw05.HuffShort': WHATEVER THE INPUT: true; the input reads as it did. -/
def huffShortSpec : ChangeSpec := { name := "huffShort", fn := fun _ => fun
  | [d1, d2] => { results := [.lit (.bool true)], args := [d1, d2] }
  | _ => none }
def huffShortRow : OpenClaim := { program := "ytempgkglhgelkaa", sum := "eb3a7428db07e2583234fb18b1be9a60f8bb4220fe7a9f2ef1d5fb3d89412692", func := "inkwell/inkwelllaw05.HuffShort", spec := "huffShort", unfollowed := true, recurses := true, apart := false }
def HuffShortSaid : Prop := huffShortRow.holds Try.pinned (OpenSpec.ofChange huffShortSpec)

/-- ITS FALSE NEIGHBOUR: 'it returns false'. Refute it at one input. -/
def huffShortWrong : ChangeSpec := { name := "huffShort", fn := fun _ => fun
  | [d1, d2] => { results := [.lit (.bool false)], args := [d1, d2] }
  | _ => none }
def HuffShortWrongFalsely : Prop := huffShortRow.holds Try.pinned (OpenSpec.ofChange huffShortWrong)

/-- 'inkwelllaw05.HuffCodes': WHATEVER THE INPUT: true; the input reads as it did. -/
def huffCodesSpec : ChangeSpec := { name := "huffCodes", fn := fun _ => fun
  | [d] => { results := [.lit (.bool true)], args := [d] }
  | _ => none }
def huffCodesRow : OpenClaim := { program := "ytempgkglhgelkaa", sum := "eb3a7428db07e2583234fb18b1be9a60f8bb4220fe7a9f2ef1d5fb3d89412692", func := "inkwell/inkwelllaw05.HuffCodes", spec := "huffCodes", unfollowed := true, recurses := true, apart := false }
def HuffCodesSaid : Prop := huffCodesRow.holds Try.pinned (OpenSpec.ofChange huffCodesSpec)

/-- ITS FALSE NEIGHBOUR: 'it returns false'. Refute it at one input. -/
def huffCodesWrong : ChangeSpec := { name := "huffCodes", fn := fun _ => fun
  | [d] => { results := [.lit (.bool false)], args := [d] }
  | _ => none }
def HuffCodesWrongFalsely : Prop := huffCodesRow.holds Try.pinned (OpenSpec.ofChange huffCodesWrong)

/-- 'inkwelllaw05.HuffReads': WHATEVER THE INPUT: true; the input reads as it did. -/
def huffReadsSpec : ChangeSpec := { name := "huffReads", fn := fun _ => fun
  | [d1, d2] => { results := [.lit (.bool true)], args := [d1, d2] }
  | _ => none }
def huffReadsRow : OpenClaim := { program := "ytempgkglhgelkaa", sum := "eb3a7428db07e2583234fb18b1be9a60f8bb4220fe7a9f2ef1d5fb3d89412692", func := "inkwell/inkwelllaw05.HuffReads", spec := "huffReads", unfollowed := true, recurses := true, apart := false }
def HuffReadsSaid : Prop := huffReadsRow.holds Try.pinned (OpenSpec.ofChange huffReadsSpec)

/-- ITS FALSE NEIGHBOUR: 'it returns false'. Refute it at one input. -/
def huffReadsWrong : ChangeSpec := { name := "huffReads", fn := fun _ => fun
  | [d1, d2] => { results := [.lit (.bool false)], args := [d1, d2] }
  | _ => none }
def HuffReadsWrongFalsely : Prop := huffReadsRow.holds Try.pinned (OpenSpec.ofChange huffReadsWrong)

/- THE SECOND FORM. 'bulk': how many values and letters a reading holds, each counted each time it is reached (what is shared counts as often as it is met; a slice's spare places count too). A statement '..UptoSaid' is the law's where the arguments, and the package variables that the reading takes, are together of bulk at most 1048576: NARROWER than '..Said'. Prove '..Said' where nothing that the law and all that it calls make is longer than what came in: it says more and counts as full. Else prove '..UptoSaid'. A law counts once. -/
mutual
def uptoBulk {H : Type} : DataW H → Nat
  | .lit (.string bytes) => bytes.length + 1
  | .lit _ => 1
  | .nil => 1
  | .ptr d => uptoBulk d + 1
  | .slice elems spare => uptoBulkAll elems + uptoBulkAll spare + 1
  | .agg parts => uptoBulkAll parts + 1
  | .iface _ d => uptoBulk d + 1
  | .map entries => uptoBulkEntries entries + 1
  | .held _ => 1
def uptoBulkAll {H : Type} : List (DataW H) → Nat
  | [] => 0
  | d :: r => uptoBulk d + uptoBulkAll r
def uptoBulkEntries {H : Type} : List (Lit × DataW H) → Nat
  | [] => 0
  | x :: r => uptoBulkEntry x + uptoBulkEntries r
def uptoBulkEntry {H : Type} : Lit × DataW H → Nat
  | (.string bytes, d) => bytes.length + uptoBulk d + 1
  | (_, d) => uptoBulk d + 1
 end
def uptoSmall : (H : Type) → List (DataW H) → Bool := fun _ ds => decide (uptoBulkAll ds ≤ 1048576)
def OpenSpec.upto (s : _root_.Go.ChangeSpec) : _root_.Go.OpenSpec := { _root_.Go.OpenSpec.ofChange s with cond := some uptoSmall }

/-- 'inkwelllaw08.CodesPresses', WHERE WHAT IT READS IS OF BULK AT MOST 1048576: true; the input reads as it did. -/
def codesPressesUptoRow : OpenClaim := { program := "ytempgkglhgelkaa", sum := "eb3a7428db07e2583234fb18b1be9a60f8bb4220fe7a9f2ef1d5fb3d89412692", func := "inkwell/inkwelllaw08.CodesPresses", spec := "codesPresses", apart := false, narrowed := true }
def CodesPressesUptoSaid : Prop := codesPressesUptoRow.holds Try.pinned (OpenSpec.upto codesPressesSpec)

/-- 'inkwelllaw08.CodesSays', WHERE WHAT IT READS IS OF BULK AT MOST 1048576: true; the input reads as it did. -/
def codesSaysUptoRow : OpenClaim := { program := "ytempgkglhgelkaa", sum := "eb3a7428db07e2583234fb18b1be9a60f8bb4220fe7a9f2ef1d5fb3d89412692", func := "inkwell/inkwelllaw08.CodesSays", spec := "codesSays", apart := false, narrowed := true }
def CodesSaysUptoSaid : Prop := codesSaysUptoRow.holds Try.pinned (OpenSpec.upto codesSaysSpec)

/-- 'inkwelllaw08.CodesFew', WHERE WHAT IT READS IS OF BULK AT MOST 1048576: true; the input reads as it did. -/
def codesFewUptoRow : OpenClaim := { program := "ytempgkglhgelkaa", sum := "eb3a7428db07e2583234fb18b1be9a60f8bb4220fe7a9f2ef1d5fb3d89412692", func := "inkwell/inkwelllaw08.CodesFew", spec := "codesFew", apart := false, narrowed := true }
def CodesFewUptoSaid : Prop := codesFewUptoRow.holds Try.pinned (OpenSpec.upto codesFewSpec)

/-- 'inkwelllaw05.HuffLengths', WHERE WHAT IT READS IS OF BULK AT MOST 1048576: true; the input reads as it did. -/
def huffLengthsUptoRow : OpenClaim := { program := "ytempgkglhgelkaa", sum := "eb3a7428db07e2583234fb18b1be9a60f8bb4220fe7a9f2ef1d5fb3d89412692", func := "inkwell/inkwelllaw05.HuffLengths", spec := "huffLengths", unfollowed := true, recurses := true, apart := false, narrowed := true }
def HuffLengthsUptoSaid : Prop := huffLengthsUptoRow.holds Try.pinned (OpenSpec.upto huffLengthsSpec)

/-- 'inkwelllaw05.HuffZero', WHERE WHAT IT READS IS OF BULK AT MOST 1048576: true; the input reads as it did. -/
def huffZeroUptoRow : OpenClaim := { program := "ytempgkglhgelkaa", sum := "eb3a7428db07e2583234fb18b1be9a60f8bb4220fe7a9f2ef1d5fb3d89412692", func := "inkwell/inkwelllaw05.HuffZero", spec := "huffZero", unfollowed := true, recurses := true, apart := false, narrowed := true }
def HuffZeroUptoSaid : Prop := huffZeroUptoRow.holds Try.pinned (OpenSpec.upto huffZeroSpec)

/-- 'inkwelllaw05.HuffShort', WHERE WHAT IT READS IS OF BULK AT MOST 1048576: true; the input reads as it did. -/
def huffShortUptoRow : OpenClaim := { program := "ytempgkglhgelkaa", sum := "eb3a7428db07e2583234fb18b1be9a60f8bb4220fe7a9f2ef1d5fb3d89412692", func := "inkwell/inkwelllaw05.HuffShort", spec := "huffShort", unfollowed := true, recurses := true, apart := false, narrowed := true }
def HuffShortUptoSaid : Prop := huffShortUptoRow.holds Try.pinned (OpenSpec.upto huffShortSpec)

/-- 'inkwelllaw05.HuffCodes', WHERE WHAT IT READS IS OF BULK AT MOST 1048576: true; the input reads as it did. -/
def huffCodesUptoRow : OpenClaim := { program := "ytempgkglhgelkaa", sum := "eb3a7428db07e2583234fb18b1be9a60f8bb4220fe7a9f2ef1d5fb3d89412692", func := "inkwell/inkwelllaw05.HuffCodes", spec := "huffCodes", unfollowed := true, recurses := true, apart := false, narrowed := true }
def HuffCodesUptoSaid : Prop := huffCodesUptoRow.holds Try.pinned (OpenSpec.upto huffCodesSpec)

/-- 'inkwelllaw05.HuffReads', WHERE WHAT IT READS IS OF BULK AT MOST 1048576: true; the input reads as it did. -/
def huffReadsUptoRow : OpenClaim := { program := "ytempgkglhgelkaa", sum := "eb3a7428db07e2583234fb18b1be9a60f8bb4220fe7a9f2ef1d5fb3d89412692", func := "inkwell/inkwelllaw05.HuffReads", spec := "huffReads", unfollowed := true, recurses := true, apart := false, narrowed := true }
def HuffReadsUptoSaid : Prop := huffReadsUptoRow.holds Try.pinned (OpenSpec.upto huffReadsSpec)

end Rows
end Go.Proofs.Ytempgkglhgelkaa
