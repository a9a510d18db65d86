/-
  NARROWER THAN 'FOR EVERY INPUT', by the rows' own cells (each row's printed sentence says how): CodesGets: laid · CodesBack: laid · DeflateWays: laid · DeflatePresses: laid · DeflateLess: laid · DeflateStores: laid · DeflateZeros: laid · InflateBack: laid · InflateCuts: laid · InflateJoins: laid · InflateEmpties: laid.
  DERIVED. THE GIVEN ROWS OF THIS SEAT. 11 by the template 'for every input the law returns true; each argument reads behind the call as it read before'; 0 by the template 'total and deterministic' (their statements: YtkjoncllnlmdgaaDoorTotals.lean).
  GIVEN WITH THE SEED: the statements are not yours to turn. If you find one false, say at which input.
  Laid BY PROGRAM, IN A SANDBOX (cutbox-rows.mjs): the forced cells as the released guide's own fill.sh prints them over the translation 92ed9a0944993b71… (all of the seat's roots in one cut). By AI agents, Wed Nov 11 2026. No macro, syntax, notation, axiom, sorry.
-/
import Derived.Test.YtkjoncllnlmdgaaDoorChecked
import GoSem.Claim
import GoSem.ClaimJoined
import GoSem.ClaimMapViews
import Derived.JoinedTies
import Derived.KernelRfl
namespace Go.Proofs.YtkjoncllnlmdgaaDoor
/- THE CELL 'sum', in the pinned program and in every row, IS THE sha256 OF THE DUMP (.gsa) THAT YtkjoncllnlmdgaaDoorProg.lean LOADS. Nothing in Lean hashes anything: it is a label: what it is worth is what the hold of that sum in a sandbox is worth. -/
noncomputable def Tryd.pinned : Pinned := { name := "ytkjoncllnlmdgaadoor", sum := "92ed9a0944993b711c19c0091a26af0b8c9c74d5dce99c54d7817059e6e53ab5", checked := Tryd.checked }
namespace Rows
def none {H : Type} : Left H := { results := [], args := [] }

/- WHAT THE LISTED PACKAGE-LEVEL VARIABLES READ AS WHEN THE CALL BEGINS. Each datum BY PROGRAM (the guide's laid-datum.mjs) off the statement by which the dump's own 'gosem.cut.vars' lays the variable. In a bare row this is a premise. The card (YtkjoncllnlmdgaaDoorCards.lean) ties it to the program's text. -/
def laid_inkwell_codes_order {H : Type} : DataW H := .agg [.lit (.int .i64 16), .lit (.int .i64 17), .lit (.int .i64 18), .lit (.int .i64 0), .lit (.int .i64 8), .lit (.int .i64 7), .lit (.int .i64 9), .lit (.int .i64 6), .lit (.int .i64 10), .lit (.int .i64 5), .lit (.int .i64 11), .lit (.int .i64 4), .lit (.int .i64 12), .lit (.int .i64 3), .lit (.int .i64 13), .lit (.int .i64 2), .lit (.int .i64 14), .lit (.int .i64 1), .lit (.int .i64 15)]
def laid_inkwell_syms_lengths {H : Type} : DataW H := .agg [.agg [.lit (.int .i64 3), .lit (.int .i64 0)], .agg [.lit (.int .i64 4), .lit (.int .i64 0)], .agg [.lit (.int .i64 5), .lit (.int .i64 0)], .agg [.lit (.int .i64 6), .lit (.int .i64 0)], .agg [.lit (.int .i64 7), .lit (.int .i64 0)], .agg [.lit (.int .i64 8), .lit (.int .i64 0)], .agg [.lit (.int .i64 9), .lit (.int .i64 0)], .agg [.lit (.int .i64 10), .lit (.int .i64 0)], .agg [.lit (.int .i64 11), .lit (.int .i64 1)], .agg [.lit (.int .i64 13), .lit (.int .i64 1)], .agg [.lit (.int .i64 15), .lit (.int .i64 1)], .agg [.lit (.int .i64 17), .lit (.int .i64 1)], .agg [.lit (.int .i64 19), .lit (.int .i64 2)], .agg [.lit (.int .i64 23), .lit (.int .i64 2)], .agg [.lit (.int .i64 27), .lit (.int .i64 2)], .agg [.lit (.int .i64 31), .lit (.int .i64 2)], .agg [.lit (.int .i64 35), .lit (.int .i64 3)], .agg [.lit (.int .i64 43), .lit (.int .i64 3)], .agg [.lit (.int .i64 51), .lit (.int .i64 3)], .agg [.lit (.int .i64 59), .lit (.int .i64 3)], .agg [.lit (.int .i64 67), .lit (.int .i64 4)], .agg [.lit (.int .i64 83), .lit (.int .i64 4)], .agg [.lit (.int .i64 99), .lit (.int .i64 4)], .agg [.lit (.int .i64 115), .lit (.int .i64 4)], .agg [.lit (.int .i64 131), .lit (.int .i64 5)], .agg [.lit (.int .i64 163), .lit (.int .i64 5)], .agg [.lit (.int .i64 195), .lit (.int .i64 5)], .agg [.lit (.int .i64 227), .lit (.int .i64 5)], .agg [.lit (.int .i64 258), .lit (.int .i64 0)]]
def laid_inkwell_syms_distances {H : Type} : DataW H := .agg [.agg [.lit (.int .i64 1), .lit (.int .i64 0)], .agg [.lit (.int .i64 2), .lit (.int .i64 0)], .agg [.lit (.int .i64 3), .lit (.int .i64 0)], .agg [.lit (.int .i64 4), .lit (.int .i64 0)], .agg [.lit (.int .i64 5), .lit (.int .i64 1)], .agg [.lit (.int .i64 7), .lit (.int .i64 1)], .agg [.lit (.int .i64 9), .lit (.int .i64 2)], .agg [.lit (.int .i64 13), .lit (.int .i64 2)], .agg [.lit (.int .i64 17), .lit (.int .i64 3)], .agg [.lit (.int .i64 25), .lit (.int .i64 3)], .agg [.lit (.int .i64 33), .lit (.int .i64 4)], .agg [.lit (.int .i64 49), .lit (.int .i64 4)], .agg [.lit (.int .i64 65), .lit (.int .i64 5)], .agg [.lit (.int .i64 97), .lit (.int .i64 5)], .agg [.lit (.int .i64 129), .lit (.int .i64 6)], .agg [.lit (.int .i64 193), .lit (.int .i64 6)], .agg [.lit (.int .i64 257), .lit (.int .i64 7)], .agg [.lit (.int .i64 385), .lit (.int .i64 7)], .agg [.lit (.int .i64 513), .lit (.int .i64 8)], .agg [.lit (.int .i64 769), .lit (.int .i64 8)], .agg [.lit (.int .i64 1025), .lit (.int .i64 9)], .agg [.lit (.int .i64 1537), .lit (.int .i64 9)], .agg [.lit (.int .i64 2049), .lit (.int .i64 10)], .agg [.lit (.int .i64 3073), .lit (.int .i64 10)], .agg [.lit (.int .i64 4097), .lit (.int .i64 11)], .agg [.lit (.int .i64 6145), .lit (.int .i64 11)], .agg [.lit (.int .i64 8193), .lit (.int .i64 12)], .agg [.lit (.int .i64 12289), .lit (.int .i64 12)], .agg [.lit (.int .i64 16385), .lit (.int .i64 13)], .agg [.lit (.int .i64 24577), .lit (.int .i64 13)]]

/-- 'inkwelllaw08.CodesGets': WHATEVER THE INPUT: true; the input reads as it did. -/
def codesGetsSpec : ChangeSpec := { name := "codesGets", fn := fun _ => fun
  | [d] => { results := [.lit (.bool true)], args := [d] }
  | _ => none }
def codesGetsRow : OpenClaim := { program := "ytkjoncllnlmdgaadoor", sum := "92ed9a0944993b711c19c0091a26af0b8c9c74d5dce99c54d7817059e6e53ab5", func := "inkwell/inkwelllaw08.CodesGets", spec := "codesGets", named := ["inkwell/codes.order"], plainKeys := false, apart := false, laid := [("inkwell/codes.order", laid_inkwell_codes_order)] }
def CodesGetsSaid : Prop := codesGetsRow.holds Tryd.pinned (OpenSpec.ofChange codesGetsSpec)

/-- ITS FALSE NEIGHBOUR: 'it returns false'. Refute it at one input. -/
def codesGetsWrong : ChangeSpec := { name := "codesGets", fn := fun _ => fun
  | [d] => { results := [.lit (.bool false)], args := [d] }
  | _ => none }
def CodesGetsWrongFalsely : Prop := codesGetsRow.holds Tryd.pinned (OpenSpec.ofChange codesGetsWrong)

/-- 'inkwelllaw08.CodesBack': WHATEVER THE INPUT: true; the input reads as it did. -/
def codesBackSpec : ChangeSpec := { name := "codesBack", fn := fun _ => fun
  | [d1, d2] => { results := [.lit (.bool true)], args := [d1, d2] }
  | _ => none }
def codesBackRow : OpenClaim := { program := "ytkjoncllnlmdgaadoor", sum := "92ed9a0944993b711c19c0091a26af0b8c9c74d5dce99c54d7817059e6e53ab5", func := "inkwell/inkwelllaw08.CodesBack", spec := "codesBack", unfollowed := true, recurses := true, named := ["inkwell/codes.order"], plainKeys := false, apart := false, laid := [("inkwell/codes.order", laid_inkwell_codes_order)] }
def CodesBackSaid : Prop := codesBackRow.holds Tryd.pinned (OpenSpec.ofChange codesBackSpec)

/-- ITS FALSE NEIGHBOUR: 'it returns false'. Refute it at one input. -/
def codesBackWrong : ChangeSpec := { name := "codesBack", fn := fun _ => fun
  | [d1, d2] => { results := [.lit (.bool false)], args := [d1, d2] }
  | _ => none }
def CodesBackWrongFalsely : Prop := codesBackRow.holds Tryd.pinned (OpenSpec.ofChange codesBackWrong)

/-- 'inkwelllaw09.DeflateWays': WHATEVER THE INPUT: true; the input reads as it did. -/
def deflateWaysSpec : ChangeSpec := { name := "deflateWays", fn := fun _ => fun
  | [d] => { results := [.lit (.bool true)], args := [d] }
  | _ => none }
def deflateWaysRow : OpenClaim := { program := "ytkjoncllnlmdgaadoor", sum := "92ed9a0944993b711c19c0091a26af0b8c9c74d5dce99c54d7817059e6e53ab5", func := "inkwell/inkwelllaw09.DeflateWays", spec := "deflateWays", unfollowed := true, recurses := true, named := ["inkwell/syms.lengths", "inkwell/syms.distances", "inkwell/codes.order"], plainKeys := false, apart := false, laid := [("inkwell/syms.lengths", laid_inkwell_syms_lengths), ("inkwell/syms.distances", laid_inkwell_syms_distances), ("inkwell/codes.order", laid_inkwell_codes_order)] }
def DeflateWaysSaid : Prop := deflateWaysRow.holds Tryd.pinned (OpenSpec.ofChange deflateWaysSpec)

/-- ITS FALSE NEIGHBOUR: 'it returns false'. Refute it at one input. -/
def deflateWaysWrong : ChangeSpec := { name := "deflateWays", fn := fun _ => fun
  | [d] => { results := [.lit (.bool false)], args := [d] }
  | _ => none }
def DeflateWaysWrongFalsely : Prop := deflateWaysRow.holds Tryd.pinned (OpenSpec.ofChange deflateWaysWrong)

/-- 'inkwelllaw09.DeflatePresses': WHATEVER THE INPUT: true; the input reads as it did. -/
def deflatePressesSpec : ChangeSpec := { name := "deflatePresses", fn := fun _ => fun
  | [d] => { results := [.lit (.bool true)], args := [d] }
  | _ => none }
def deflatePressesRow : OpenClaim := { program := "ytkjoncllnlmdgaadoor", sum := "92ed9a0944993b711c19c0091a26af0b8c9c74d5dce99c54d7817059e6e53ab5", func := "inkwell/inkwelllaw09.DeflatePresses", spec := "deflatePresses", unfollowed := true, recurses := true, named := ["inkwell/syms.lengths", "inkwell/syms.distances", "inkwell/codes.order"], plainKeys := false, apart := false, laid := [("inkwell/syms.lengths", laid_inkwell_syms_lengths), ("inkwell/syms.distances", laid_inkwell_syms_distances), ("inkwell/codes.order", laid_inkwell_codes_order)] }
def DeflatePressesSaid : Prop := deflatePressesRow.holds Tryd.pinned (OpenSpec.ofChange deflatePressesSpec)

/-- ITS FALSE NEIGHBOUR: 'it returns false'. Refute it at one input. -/
def deflatePressesWrong : ChangeSpec := { name := "deflatePresses", fn := fun _ => fun
  | [d] => { results := [.lit (.bool false)], args := [d] }
  | _ => none }
def DeflatePressesWrongFalsely : Prop := deflatePressesRow.holds Tryd.pinned (OpenSpec.ofChange deflatePressesWrong)

/-- 'inkwelllaw09.DeflateLess': WHATEVER THE INPUT: true; the input reads as it did. -/
def deflateLessSpec : ChangeSpec := { name := "deflateLess", fn := fun _ => fun
  | [d] => { results := [.lit (.bool true)], args := [d] }
  | _ => none }
def deflateLessRow : OpenClaim := { program := "ytkjoncllnlmdgaadoor", sum := "92ed9a0944993b711c19c0091a26af0b8c9c74d5dce99c54d7817059e6e53ab5", func := "inkwell/inkwelllaw09.DeflateLess", spec := "deflateLess", unfollowed := true, recurses := true, named := ["inkwell/syms.lengths", "inkwell/syms.distances", "inkwell/codes.order"], plainKeys := false, apart := false, laid := [("inkwell/syms.lengths", laid_inkwell_syms_lengths), ("inkwell/syms.distances", laid_inkwell_syms_distances), ("inkwell/codes.order", laid_inkwell_codes_order)] }
def DeflateLessSaid : Prop := deflateLessRow.holds Tryd.pinned (OpenSpec.ofChange deflateLessSpec)

/-- ITS FALSE NEIGHBOUR: 'it returns false'. Refute it at one input. -/
def deflateLessWrong : ChangeSpec := { name := "deflateLess", fn := fun _ => fun
  | [d] => { results := [.lit (.bool false)], args := [d] }
  | _ => none }
def DeflateLessWrongFalsely : Prop := deflateLessRow.holds Tryd.pinned (OpenSpec.ofChange deflateLessWrong)

/-- 'inkwelllaw09.DeflateStores': WHATEVER THE INPUT: true; the input reads as it did. -/
def deflateStoresSpec : ChangeSpec := { name := "deflateStores", fn := fun _ => fun
  | [d1, d2] => { results := [.lit (.bool true)], args := [d1, d2] }
  | _ => none }
def deflateStoresRow : OpenClaim := { program := "ytkjoncllnlmdgaadoor", sum := "92ed9a0944993b711c19c0091a26af0b8c9c74d5dce99c54d7817059e6e53ab5", func := "inkwell/inkwelllaw09.DeflateStores", spec := "deflateStores", unfollowed := true, recurses := true, named := ["inkwell/syms.lengths", "inkwell/syms.distances", "inkwell/codes.order"], plainKeys := false, apart := false, laid := [("inkwell/syms.lengths", laid_inkwell_syms_lengths), ("inkwell/syms.distances", laid_inkwell_syms_distances), ("inkwell/codes.order", laid_inkwell_codes_order)] }
def DeflateStoresSaid : Prop := deflateStoresRow.holds Tryd.pinned (OpenSpec.ofChange deflateStoresSpec)

/-- ITS FALSE NEIGHBOUR: 'it returns false'. Refute it at one input. -/
def deflateStoresWrong : ChangeSpec := { name := "deflateStores", fn := fun _ => fun
  | [d1, d2] => { results := [.lit (.bool false)], args := [d1, d2] }
  | _ => none }
def DeflateStoresWrongFalsely : Prop := deflateStoresRow.holds Tryd.pinned (OpenSpec.ofChange deflateStoresWrong)

/-- 'inkwelllaw09.DeflateZeros': WHATEVER THE INPUT: true; the input reads as it did. -/
def deflateZerosSpec : ChangeSpec := { name := "deflateZeros", fn := fun _ => fun
  | [d1, d2] => { results := [.lit (.bool true)], args := [d1, d2] }
  | _ => none }
def deflateZerosRow : OpenClaim := { program := "ytkjoncllnlmdgaadoor", sum := "92ed9a0944993b711c19c0091a26af0b8c9c74d5dce99c54d7817059e6e53ab5", func := "inkwell/inkwelllaw09.DeflateZeros", spec := "deflateZeros", unfollowed := true, recurses := true, named := ["inkwell/syms.lengths", "inkwell/syms.distances", "inkwell/codes.order"], plainKeys := false, apart := false, laid := [("inkwell/syms.lengths", laid_inkwell_syms_lengths), ("inkwell/syms.distances", laid_inkwell_syms_distances), ("inkwell/codes.order", laid_inkwell_codes_order)] }
def DeflateZerosSaid : Prop := deflateZerosRow.holds Tryd.pinned (OpenSpec.ofChange deflateZerosSpec)

/-- ITS FALSE NEIGHBOUR: 'it returns false'. Refute it at one input. -/
def deflateZerosWrong : ChangeSpec := { name := "deflateZeros", fn := fun _ => fun
  | [d1, d2] => { results := [.lit (.bool false)], args := [d1, d2] }
  | _ => none }
def DeflateZerosWrongFalsely : Prop := deflateZerosRow.holds Tryd.pinned (OpenSpec.ofChange deflateZerosWrong)

/-- 'inkwelllaw10.InflateBack': WHATEVER THE INPUT: true; the input reads as it did. -/
def inflateBackSpec : ChangeSpec := { name := "inflateBack", fn := fun _ => fun
  | [d1, d2] => { results := [.lit (.bool true)], args := [d1, d2] }
  | _ => none }
def inflateBackRow : OpenClaim := { program := "ytkjoncllnlmdgaadoor", sum := "92ed9a0944993b711c19c0091a26af0b8c9c74d5dce99c54d7817059e6e53ab5", func := "inkwell/inkwelllaw10.InflateBack", spec := "inflateBack", unfollowed := true, recurses := true, named := ["inkwell/syms.lengths", "inkwell/syms.distances", "inkwell/codes.order"], plainKeys := false, apart := false, laid := [("inkwell/syms.lengths", laid_inkwell_syms_lengths), ("inkwell/syms.distances", laid_inkwell_syms_distances), ("inkwell/codes.order", laid_inkwell_codes_order)] }
def InflateBackSaid : Prop := inflateBackRow.holds Tryd.pinned (OpenSpec.ofChange inflateBackSpec)

/-- ITS FALSE NEIGHBOUR: 'it returns false'. Refute it at one input. -/
def inflateBackWrong : ChangeSpec := { name := "inflateBack", fn := fun _ => fun
  | [d1, d2] => { results := [.lit (.bool false)], args := [d1, d2] }
  | _ => none }
def InflateBackWrongFalsely : Prop := inflateBackRow.holds Tryd.pinned (OpenSpec.ofChange inflateBackWrong)

/-- 'inkwelllaw10.InflateCuts': WHATEVER THE INPUT: true; the input reads as it did. -/
def inflateCutsSpec : ChangeSpec := { name := "inflateCuts", fn := fun _ => fun
  | [d1, d2] => { results := [.lit (.bool true)], args := [d1, d2] }
  | _ => none }
def inflateCutsRow : OpenClaim := { program := "ytkjoncllnlmdgaadoor", sum := "92ed9a0944993b711c19c0091a26af0b8c9c74d5dce99c54d7817059e6e53ab5", func := "inkwell/inkwelllaw10.InflateCuts", spec := "inflateCuts", unfollowed := true, recurses := true, named := ["inkwell/syms.lengths", "inkwell/syms.distances", "inkwell/codes.order"], plainKeys := false, apart := false, laid := [("inkwell/syms.lengths", laid_inkwell_syms_lengths), ("inkwell/syms.distances", laid_inkwell_syms_distances), ("inkwell/codes.order", laid_inkwell_codes_order)] }
def InflateCutsSaid : Prop := inflateCutsRow.holds Tryd.pinned (OpenSpec.ofChange inflateCutsSpec)

/-- ITS FALSE NEIGHBOUR: 'it returns false'. Refute it at one input. -/
def inflateCutsWrong : ChangeSpec := { name := "inflateCuts", fn := fun _ => fun
  | [d1, d2] => { results := [.lit (.bool false)], args := [d1, d2] }
  | _ => none }
def InflateCutsWrongFalsely : Prop := inflateCutsRow.holds Tryd.pinned (OpenSpec.ofChange inflateCutsWrong)

/-- 'inkwelllaw10.InflateJoins': WHATEVER THE INPUT: true; the input reads as it did. -/
def inflateJoinsSpec : ChangeSpec := { name := "inflateJoins", fn := fun _ => fun
  | [d1, d2] => { results := [.lit (.bool true)], args := [d1, d2] }
  | _ => none }
def inflateJoinsRow : OpenClaim := { program := "ytkjoncllnlmdgaadoor", sum := "92ed9a0944993b711c19c0091a26af0b8c9c74d5dce99c54d7817059e6e53ab5", func := "inkwell/inkwelllaw10.InflateJoins", spec := "inflateJoins", unfollowed := true, recurses := true, named := ["inkwell/syms.lengths", "inkwell/syms.distances", "inkwell/codes.order"], plainKeys := false, apart := false, laid := [("inkwell/syms.lengths", laid_inkwell_syms_lengths), ("inkwell/syms.distances", laid_inkwell_syms_distances), ("inkwell/codes.order", laid_inkwell_codes_order)] }
def InflateJoinsSaid : Prop := inflateJoinsRow.holds Tryd.pinned (OpenSpec.ofChange inflateJoinsSpec)

/-- ITS FALSE NEIGHBOUR: 'it returns false'. Refute it at one input. -/
def inflateJoinsWrong : ChangeSpec := { name := "inflateJoins", fn := fun _ => fun
  | [d1, d2] => { results := [.lit (.bool false)], args := [d1, d2] }
  | _ => none }
def InflateJoinsWrongFalsely : Prop := inflateJoinsRow.holds Tryd.pinned (OpenSpec.ofChange inflateJoinsWrong)

/-- 'inkwelllaw10.InflateEmpties': WHATEVER THE INPUT: true; the input reads as it did. -/
def inflateEmptiesSpec : ChangeSpec := { name := "inflateEmpties", fn := fun _ => fun
  | [d1, d2] => { results := [.lit (.bool true)], args := [d1, d2] }
  | _ => none }
def inflateEmptiesRow : OpenClaim := { program := "ytkjoncllnlmdgaadoor", sum := "92ed9a0944993b711c19c0091a26af0b8c9c74d5dce99c54d7817059e6e53ab5", func := "inkwell/inkwelllaw10.InflateEmpties", spec := "inflateEmpties", unfollowed := true, recurses := true, named := ["inkwell/syms.lengths", "inkwell/syms.distances", "inkwell/codes.order"], plainKeys := false, apart := false, laid := [("inkwell/syms.lengths", laid_inkwell_syms_lengths), ("inkwell/syms.distances", laid_inkwell_syms_distances), ("inkwell/codes.order", laid_inkwell_codes_order)] }
def InflateEmptiesSaid : Prop := inflateEmptiesRow.holds Tryd.pinned (OpenSpec.ofChange inflateEmptiesSpec)

/-- ITS FALSE NEIGHBOUR: 'it returns false'. Refute it at one input. -/
def inflateEmptiesWrong : ChangeSpec := { name := "inflateEmpties", fn := fun _ => fun
  | [d1, d2] => { results := [.lit (.bool false)], args := [d1, d2] }
  | _ => none }
def InflateEmptiesWrongFalsely : Prop := inflateEmptiesRow.holds Tryd.pinned (OpenSpec.ofChange inflateEmptiesWrong)

/- THE SECOND FORM. 'bulk': how many values and letters a reading holds, each counted each time it is reached (what is shared counts as often as it is met; a slice's spare places count too). A statement '..UptoSaid' is the law's where the arguments, and the package variables that the reading takes, are together of bulk at most 1048576: NARROWER than '..Said'. Prove '..Said' where nothing that the law and all that it calls make is longer than what came in: it says more and counts as full. Else prove '..UptoSaid'. A law counts once. -/
mutual
def uptoBulk {H : Type} : DataW H → Nat
  | .lit (.string bytes) => bytes.length + 1
  | .lit _ => 1
  | .nil => 1
  | .ptr d => uptoBulk d + 1
  | .slice elems spare => uptoBulkAll elems + uptoBulkAll spare + 1
  | .agg parts => uptoBulkAll parts + 1
  | .iface _ d => uptoBulk d + 1
  | .map entries => uptoBulkEntries entries + 1
  | .held _ => 1
def uptoBulkAll {H : Type} : List (DataW H) → Nat
  | [] => 0
  | d :: r => uptoBulk d + uptoBulkAll r
def uptoBulkEntries {H : Type} : List (Lit × DataW H) → Nat
  | [] => 0
  | x :: r => uptoBulkEntry x + uptoBulkEntries r
def uptoBulkEntry {H : Type} : Lit × DataW H → Nat
  | (.string bytes, d) => bytes.length + uptoBulk d + 1
  | (_, d) => uptoBulk d + 1
 end
def uptoSmall : (H : Type) → List (DataW H) → Bool := fun _ ds => decide (uptoBulkAll ds ≤ 1048576)
def OpenSpec.upto (s : _root_.Go.ChangeSpec) : _root_.Go.OpenSpec := { _root_.Go.OpenSpec.ofChange s with cond := some uptoSmall }

/-- 'inkwelllaw08.CodesGets', WHERE WHAT IT READS IS OF BULK AT MOST 1048576: true; the input reads as it did. -/
def codesGetsUptoRow : OpenClaim := { program := "ytkjoncllnlmdgaadoor", sum := "92ed9a0944993b711c19c0091a26af0b8c9c74d5dce99c54d7817059e6e53ab5", func := "inkwell/inkwelllaw08.CodesGets", spec := "codesGets", named := ["inkwell/codes.order"], plainKeys := false, apart := false, laid := [("inkwell/codes.order", laid_inkwell_codes_order)], narrowed := true }
def CodesGetsUptoSaid : Prop := codesGetsUptoRow.holds Tryd.pinned (OpenSpec.upto codesGetsSpec)

/-- 'inkwelllaw08.CodesBack', WHERE WHAT IT READS IS OF BULK AT MOST 1048576: true; the input reads as it did. -/
def codesBackUptoRow : OpenClaim := { program := "ytkjoncllnlmdgaadoor", sum := "92ed9a0944993b711c19c0091a26af0b8c9c74d5dce99c54d7817059e6e53ab5", func := "inkwell/inkwelllaw08.CodesBack", spec := "codesBack", unfollowed := true, recurses := true, named := ["inkwell/codes.order"], plainKeys := false, apart := false, laid := [("inkwell/codes.order", laid_inkwell_codes_order)], narrowed := true }
def CodesBackUptoSaid : Prop := codesBackUptoRow.holds Tryd.pinned (OpenSpec.upto codesBackSpec)

/-- 'inkwelllaw09.DeflateWays', WHERE WHAT IT READS IS OF BULK AT MOST 1048576: true; the input reads as it did. -/
def deflateWaysUptoRow : OpenClaim := { program := "ytkjoncllnlmdgaadoor", sum := "92ed9a0944993b711c19c0091a26af0b8c9c74d5dce99c54d7817059e6e53ab5", func := "inkwell/inkwelllaw09.DeflateWays", spec := "deflateWays", unfollowed := true, recurses := true, named := ["inkwell/syms.lengths", "inkwell/syms.distances", "inkwell/codes.order"], plainKeys := false, apart := false, laid := [("inkwell/syms.lengths", laid_inkwell_syms_lengths), ("inkwell/syms.distances", laid_inkwell_syms_distances), ("inkwell/codes.order", laid_inkwell_codes_order)], narrowed := true }
def DeflateWaysUptoSaid : Prop := deflateWaysUptoRow.holds Tryd.pinned (OpenSpec.upto deflateWaysSpec)

/-- 'inkwelllaw09.DeflatePresses', WHERE WHAT IT READS IS OF BULK AT MOST 1048576: true; the input reads as it did. -/
def deflatePressesUptoRow : OpenClaim := { program := "ytkjoncllnlmdgaadoor", sum := "92ed9a0944993b711c19c0091a26af0b8c9c74d5dce99c54d7817059e6e53ab5", func := "inkwell/inkwelllaw09.DeflatePresses", spec := "deflatePresses", unfollowed := true, recurses := true, named := ["inkwell/syms.lengths", "inkwell/syms.distances", "inkwell/codes.order"], plainKeys := false, apart := false, laid := [("inkwell/syms.lengths", laid_inkwell_syms_lengths), ("inkwell/syms.distances", laid_inkwell_syms_distances), ("inkwell/codes.order", laid_inkwell_codes_order)], narrowed := true }
def DeflatePressesUptoSaid : Prop := deflatePressesUptoRow.holds Tryd.pinned (OpenSpec.upto deflatePressesSpec)

/-- 'inkwelllaw09.DeflateLess', WHERE WHAT IT READS IS OF BULK AT MOST 1048576: true; the input reads as it did. -/
def deflateLessUptoRow : OpenClaim := { program := "ytkjoncllnlmdgaadoor", sum := "92ed9a0944993b711c19c0091a26af0b8c9c74d5dce99c54d7817059e6e53ab5", func := "inkwell/inkwelllaw09.DeflateLess", spec := "deflateLess", unfollowed := true, recurses := true, named := ["inkwell/syms.lengths", "inkwell/syms.distances", "inkwell/codes.order"], plainKeys := false, apart := false, laid := [("inkwell/syms.lengths", laid_inkwell_syms_lengths), ("inkwell/syms.distances", laid_inkwell_syms_distances), ("inkwell/codes.order", laid_inkwell_codes_order)], narrowed := true }
def DeflateLessUptoSaid : Prop := deflateLessUptoRow.holds Tryd.pinned (OpenSpec.upto deflateLessSpec)

/-- 'inkwelllaw09.DeflateStores', WHERE WHAT IT READS IS OF BULK AT MOST 1048576: true; the input reads as it did. -/
def deflateStoresUptoRow : OpenClaim := { program := "ytkjoncllnlmdgaadoor", sum := "92ed9a0944993b711c19c0091a26af0b8c9c74d5dce99c54d7817059e6e53ab5", func := "inkwell/inkwelllaw09.DeflateStores", spec := "deflateStores", unfollowed := true, recurses := true, named := ["inkwell/syms.lengths", "inkwell/syms.distances", "inkwell/codes.order"], plainKeys := false, apart := false, laid := [("inkwell/syms.lengths", laid_inkwell_syms_lengths), ("inkwell/syms.distances", laid_inkwell_syms_distances), ("inkwell/codes.order", laid_inkwell_codes_order)], narrowed := true }
def DeflateStoresUptoSaid : Prop := deflateStoresUptoRow.holds Tryd.pinned (OpenSpec.upto deflateStoresSpec)

/-- 'inkwelllaw09.DeflateZeros', WHERE WHAT IT READS IS OF BULK AT MOST 1048576: true; the input reads as it did. -/
def deflateZerosUptoRow : OpenClaim := { program := "ytkjoncllnlmdgaadoor", sum := "92ed9a0944993b711c19c0091a26af0b8c9c74d5dce99c54d7817059e6e53ab5", func := "inkwell/inkwelllaw09.DeflateZeros", spec := "deflateZeros", unfollowed := true, recurses := true, named := ["inkwell/syms.lengths", "inkwell/syms.distances", "inkwell/codes.order"], plainKeys := false, apart := false, laid := [("inkwell/syms.lengths", laid_inkwell_syms_lengths), ("inkwell/syms.distances", laid_inkwell_syms_distances), ("inkwell/codes.order", laid_inkwell_codes_order)], narrowed := true }
def DeflateZerosUptoSaid : Prop := deflateZerosUptoRow.holds Tryd.pinned (OpenSpec.upto deflateZerosSpec)

/-- 'inkwelllaw10.InflateBack', WHERE WHAT IT READS IS OF BULK AT MOST 1048576: true; the input reads as it did. -/
def inflateBackUptoRow : OpenClaim := { program := "ytkjoncllnlmdgaadoor", sum := "92ed9a0944993b711c19c0091a26af0b8c9c74d5dce99c54d7817059e6e53ab5", func := "inkwell/inkwelllaw10.InflateBack", spec := "inflateBack", unfollowed := true, recurses := true, named := ["inkwell/syms.lengths", "inkwell/syms.distances", "inkwell/codes.order"], plainKeys := false, apart := false, laid := [("inkwell/syms.lengths", laid_inkwell_syms_lengths), ("inkwell/syms.distances", laid_inkwell_syms_distances), ("inkwell/codes.order", laid_inkwell_codes_order)], narrowed := true }
def InflateBackUptoSaid : Prop := inflateBackUptoRow.holds Tryd.pinned (OpenSpec.upto inflateBackSpec)

/-- 'inkwelllaw10.InflateCuts', WHERE WHAT IT READS IS OF BULK AT MOST 1048576: true; the input reads as it did. -/
def inflateCutsUptoRow : OpenClaim := { program := "ytkjoncllnlmdgaadoor", sum := "92ed9a0944993b711c19c0091a26af0b8c9c74d5dce99c54d7817059e6e53ab5", func := "inkwell/inkwelllaw10.InflateCuts", spec := "inflateCuts", unfollowed := true, recurses := true, named := ["inkwell/syms.lengths", "inkwell/syms.distances", "inkwell/codes.order"], plainKeys := false, apart := false, laid := [("inkwell/syms.lengths", laid_inkwell_syms_lengths), ("inkwell/syms.distances", laid_inkwell_syms_distances), ("inkwell/codes.order", laid_inkwell_codes_order)], narrowed := true }
def InflateCutsUptoSaid : Prop := inflateCutsUptoRow.holds Tryd.pinned (OpenSpec.upto inflateCutsSpec)

/-- 'inkwelllaw10.InflateJoins', WHERE WHAT IT READS IS OF BULK AT MOST 1048576: true; the input reads as it did. -/
def inflateJoinsUptoRow : OpenClaim := { program := "ytkjoncllnlmdgaadoor", sum := "92ed9a0944993b711c19c0091a26af0b8c9c74d5dce99c54d7817059e6e53ab5", func := "inkwell/inkwelllaw10.InflateJoins", spec := "inflateJoins", unfollowed := true, recurses := true, named := ["inkwell/syms.lengths", "inkwell/syms.distances", "inkwell/codes.order"], plainKeys := false, apart := false, laid := [("inkwell/syms.lengths", laid_inkwell_syms_lengths), ("inkwell/syms.distances", laid_inkwell_syms_distances), ("inkwell/codes.order", laid_inkwell_codes_order)], narrowed := true }
def InflateJoinsUptoSaid : Prop := inflateJoinsUptoRow.holds Tryd.pinned (OpenSpec.upto inflateJoinsSpec)

/-- 'inkwelllaw10.InflateEmpties', WHERE WHAT IT READS IS OF BULK AT MOST 1048576: true; the input reads as it did. -/
def inflateEmptiesUptoRow : OpenClaim := { program := "ytkjoncllnlmdgaadoor", sum := "92ed9a0944993b711c19c0091a26af0b8c9c74d5dce99c54d7817059e6e53ab5", func := "inkwell/inkwelllaw10.InflateEmpties", spec := "inflateEmpties", unfollowed := true, recurses := true, named := ["inkwell/syms.lengths", "inkwell/syms.distances", "inkwell/codes.order"], plainKeys := false, apart := false, laid := [("inkwell/syms.lengths", laid_inkwell_syms_lengths), ("inkwell/syms.distances", laid_inkwell_syms_distances), ("inkwell/codes.order", laid_inkwell_codes_order)], narrowed := true }
def InflateEmptiesUptoSaid : Prop := inflateEmptiesUptoRow.holds Tryd.pinned (OpenSpec.upto inflateEmptiesSpec)

end Rows
end Go.Proofs.YtkjoncllnlmdgaaDoor
