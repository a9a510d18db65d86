/-
  DERIVED. GIVEN WITH THE SEED: THE CARDS: each row of YtkjoncllnlmdgaaDoorRows.lean that lists a variable, with what it lists TIED to the program's text (the seventh form; the later family's looks); each row that meets fmt, with fmt's text TOLD by the authors' own Lean function (tested against real Go, not proved from fmt's source: count such statements apart). THE CARD IS WHAT COUNTS. Prove the row's statement (the work); the ties are given (YtkjoncllnlmdgaaDoorTie.lean); close each card by the builder's one call (the guide's Derived/Test/ToyasCard.lean, 'card_holds'). Laid BY PROGRAM, IN A SANDBOX (cutbox-door.mjs). By AI agents, Wed Nov 11 2026. No macro, syntax, notation, axiom, sorry.
-/
import Derived.Test.YtkjoncllnlmdgaaDoorRows
import GoSem.ClaimSeven
namespace Go.Proofs.YtkjoncllnlmdgaaDoor
namespace Rows

/-- THE TIED CARD OF 'inkwelllaw08.CodesGets'. -/
def codesGetsCard : Claim7 := { stood := { row := codesGetsRow, standIns := [], harness := (true, "39eac843fc7f645430ac036393bfc41c5db95678fe9f9565720098f0fcd48b5d"), looks := true }, kinds := [], alts := [], laidByText := true, laidKinds := [.widerDeep], laidTests := true, laidLooks := .later }
def CodesGetsCardSaid : Prop := Claim7.holds Tryd.pinned (.plain (OpenSpec.ofChange codesGetsSpec)) codesGetsCard

/-- THE TIED CARD OF 'inkwelllaw08.CodesBack'. -/
def codesBackCard : Claim7 := { stood := { row := codesBackRow, standIns := [], harness := (true, "39eac843fc7f645430ac036393bfc41c5db95678fe9f9565720098f0fcd48b5d"), looks := true }, kinds := [], alts := [], laidByText := true, laidKinds := [.widerDeep], laidTests := true, laidLooks := .later }
def CodesBackCardSaid : Prop := Claim7.holds Tryd.pinned (.plain (OpenSpec.ofChange codesBackSpec)) codesBackCard

/-- THE TIED CARD OF 'inkwelllaw09.DeflateWays'. -/
def deflateWaysCard : Claim7 := { stood := { row := deflateWaysRow, standIns := [], harness := (true, "39eac843fc7f645430ac036393bfc41c5db95678fe9f9565720098f0fcd48b5d"), looks := true }, kinds := [], alts := [], laidByText := true, laidKinds := [.widerDeep, .widerDeep, .widerDeep], laidTests := true, laidLooks := .later }
def DeflateWaysCardSaid : Prop := Claim7.holds Tryd.pinned (.plain (OpenSpec.ofChange deflateWaysSpec)) deflateWaysCard

/-- THE TIED CARD OF 'inkwelllaw09.DeflatePresses'. -/
def deflatePressesCard : Claim7 := { stood := { row := deflatePressesRow, standIns := [], harness := (true, "39eac843fc7f645430ac036393bfc41c5db95678fe9f9565720098f0fcd48b5d"), looks := true }, kinds := [], alts := [], laidByText := true, laidKinds := [.widerDeep, .widerDeep, .widerDeep], laidTests := true, laidLooks := .later }
def DeflatePressesCardSaid : Prop := Claim7.holds Tryd.pinned (.plain (OpenSpec.ofChange deflatePressesSpec)) deflatePressesCard

/-- THE TIED CARD OF 'inkwelllaw09.DeflateLess'. -/
def deflateLessCard : Claim7 := { stood := { row := deflateLessRow, standIns := [], harness := (true, "39eac843fc7f645430ac036393bfc41c5db95678fe9f9565720098f0fcd48b5d"), looks := true }, kinds := [], alts := [], laidByText := true, laidKinds := [.widerDeep, .widerDeep, .widerDeep], laidTests := true, laidLooks := .later }
def DeflateLessCardSaid : Prop := Claim7.holds Tryd.pinned (.plain (OpenSpec.ofChange deflateLessSpec)) deflateLessCard

/-- THE TIED CARD OF 'inkwelllaw09.DeflateStores'. -/
def deflateStoresCard : Claim7 := { stood := { row := deflateStoresRow, standIns := [], harness := (true, "39eac843fc7f645430ac036393bfc41c5db95678fe9f9565720098f0fcd48b5d"), looks := true }, kinds := [], alts := [], laidByText := true, laidKinds := [.widerDeep, .widerDeep, .widerDeep], laidTests := true, laidLooks := .later }
def DeflateStoresCardSaid : Prop := Claim7.holds Tryd.pinned (.plain (OpenSpec.ofChange deflateStoresSpec)) deflateStoresCard

/-- THE TIED CARD OF 'inkwelllaw09.DeflateZeros'. -/
def deflateZerosCard : Claim7 := { stood := { row := deflateZerosRow, standIns := [], harness := (true, "39eac843fc7f645430ac036393bfc41c5db95678fe9f9565720098f0fcd48b5d"), looks := true }, kinds := [], alts := [], laidByText := true, laidKinds := [.widerDeep, .widerDeep, .widerDeep], laidTests := true, laidLooks := .later }
def DeflateZerosCardSaid : Prop := Claim7.holds Tryd.pinned (.plain (OpenSpec.ofChange deflateZerosSpec)) deflateZerosCard

/-- THE TIED CARD OF 'inkwelllaw10.InflateBack'. -/
def inflateBackCard : Claim7 := { stood := { row := inflateBackRow, standIns := [], harness := (true, "39eac843fc7f645430ac036393bfc41c5db95678fe9f9565720098f0fcd48b5d"), looks := true }, kinds := [], alts := [], laidByText := true, laidKinds := [.widerDeep, .widerDeep, .widerDeep], laidTests := true, laidLooks := .later }
def InflateBackCardSaid : Prop := Claim7.holds Tryd.pinned (.plain (OpenSpec.ofChange inflateBackSpec)) inflateBackCard

/-- THE TIED CARD OF 'inkwelllaw10.InflateCuts'. -/
def inflateCutsCard : Claim7 := { stood := { row := inflateCutsRow, standIns := [], harness := (true, "39eac843fc7f645430ac036393bfc41c5db95678fe9f9565720098f0fcd48b5d"), looks := true }, kinds := [], alts := [], laidByText := true, laidKinds := [.widerDeep, .widerDeep, .widerDeep], laidTests := true, laidLooks := .later }
def InflateCutsCardSaid : Prop := Claim7.holds Tryd.pinned (.plain (OpenSpec.ofChange inflateCutsSpec)) inflateCutsCard

/-- THE TIED CARD OF 'inkwelllaw10.InflateJoins'. -/
def inflateJoinsCard : Claim7 := { stood := { row := inflateJoinsRow, standIns := [], harness := (true, "39eac843fc7f645430ac036393bfc41c5db95678fe9f9565720098f0fcd48b5d"), looks := true }, kinds := [], alts := [], laidByText := true, laidKinds := [.widerDeep, .widerDeep, .widerDeep], laidTests := true, laidLooks := .later }
def InflateJoinsCardSaid : Prop := Claim7.holds Tryd.pinned (.plain (OpenSpec.ofChange inflateJoinsSpec)) inflateJoinsCard

/-- THE TIED CARD OF 'inkwelllaw10.InflateEmpties'. -/
def inflateEmptiesCard : Claim7 := { stood := { row := inflateEmptiesRow, standIns := [], harness := (true, "39eac843fc7f645430ac036393bfc41c5db95678fe9f9565720098f0fcd48b5d"), looks := true }, kinds := [], alts := [], laidByText := true, laidKinds := [.widerDeep, .widerDeep, .widerDeep], laidTests := true, laidLooks := .later }
def InflateEmptiesCardSaid : Prop := Claim7.holds Tryd.pinned (.plain (OpenSpec.ofChange inflateEmptiesSpec)) inflateEmptiesCard

/-- THE SECOND FORM's CARD OF 'inkwelllaw08.CodesGets'. -/
def codesGetsUptoCard : Claim7 := { stood := { row := codesGetsUptoRow, standIns := [], harness := (true, "39eac843fc7f645430ac036393bfc41c5db95678fe9f9565720098f0fcd48b5d"), looks := true }, kinds := [], alts := [], laidByText := true, laidKinds := [.widerDeep], laidTests := true, laidLooks := .later }
def CodesGetsUptoCardSaid : Prop := Claim7.holds Tryd.pinned (.plain (OpenSpec.upto codesGetsSpec)) codesGetsUptoCard

/-- THE SECOND FORM's CARD OF 'inkwelllaw08.CodesBack'. -/
def codesBackUptoCard : Claim7 := { stood := { row := codesBackUptoRow, standIns := [], harness := (true, "39eac843fc7f645430ac036393bfc41c5db95678fe9f9565720098f0fcd48b5d"), looks := true }, kinds := [], alts := [], laidByText := true, laidKinds := [.widerDeep], laidTests := true, laidLooks := .later }
def CodesBackUptoCardSaid : Prop := Claim7.holds Tryd.pinned (.plain (OpenSpec.upto codesBackSpec)) codesBackUptoCard

/-- THE SECOND FORM's CARD OF 'inkwelllaw09.DeflateWays'. -/
def deflateWaysUptoCard : Claim7 := { stood := { row := deflateWaysUptoRow, standIns := [], harness := (true, "39eac843fc7f645430ac036393bfc41c5db95678fe9f9565720098f0fcd48b5d"), looks := true }, kinds := [], alts := [], laidByText := true, laidKinds := [.widerDeep, .widerDeep, .widerDeep], laidTests := true, laidLooks := .later }
def DeflateWaysUptoCardSaid : Prop := Claim7.holds Tryd.pinned (.plain (OpenSpec.upto deflateWaysSpec)) deflateWaysUptoCard

/-- THE SECOND FORM's CARD OF 'inkwelllaw09.DeflatePresses'. -/
def deflatePressesUptoCard : Claim7 := { stood := { row := deflatePressesUptoRow, standIns := [], harness := (true, "39eac843fc7f645430ac036393bfc41c5db95678fe9f9565720098f0fcd48b5d"), looks := true }, kinds := [], alts := [], laidByText := true, laidKinds := [.widerDeep, .widerDeep, .widerDeep], laidTests := true, laidLooks := .later }
def DeflatePressesUptoCardSaid : Prop := Claim7.holds Tryd.pinned (.plain (OpenSpec.upto deflatePressesSpec)) deflatePressesUptoCard

/-- THE SECOND FORM's CARD OF 'inkwelllaw09.DeflateLess'. -/
def deflateLessUptoCard : Claim7 := { stood := { row := deflateLessUptoRow, standIns := [], harness := (true, "39eac843fc7f645430ac036393bfc41c5db95678fe9f9565720098f0fcd48b5d"), looks := true }, kinds := [], alts := [], laidByText := true, laidKinds := [.widerDeep, .widerDeep, .widerDeep], laidTests := true, laidLooks := .later }
def DeflateLessUptoCardSaid : Prop := Claim7.holds Tryd.pinned (.plain (OpenSpec.upto deflateLessSpec)) deflateLessUptoCard

/-- THE SECOND FORM's CARD OF 'inkwelllaw09.DeflateStores'. -/
def deflateStoresUptoCard : Claim7 := { stood := { row := deflateStoresUptoRow, standIns := [], harness := (true, "39eac843fc7f645430ac036393bfc41c5db95678fe9f9565720098f0fcd48b5d"), looks := true }, kinds := [], alts := [], laidByText := true, laidKinds := [.widerDeep, .widerDeep, .widerDeep], laidTests := true, laidLooks := .later }
def DeflateStoresUptoCardSaid : Prop := Claim7.holds Tryd.pinned (.plain (OpenSpec.upto deflateStoresSpec)) deflateStoresUptoCard

/-- THE SECOND FORM's CARD OF 'inkwelllaw09.DeflateZeros'. -/
def deflateZerosUptoCard : Claim7 := { stood := { row := deflateZerosUptoRow, standIns := [], harness := (true, "39eac843fc7f645430ac036393bfc41c5db95678fe9f9565720098f0fcd48b5d"), looks := true }, kinds := [], alts := [], laidByText := true, laidKinds := [.widerDeep, .widerDeep, .widerDeep], laidTests := true, laidLooks := .later }
def DeflateZerosUptoCardSaid : Prop := Claim7.holds Tryd.pinned (.plain (OpenSpec.upto deflateZerosSpec)) deflateZerosUptoCard

/-- THE SECOND FORM's CARD OF 'inkwelllaw10.InflateBack'. -/
def inflateBackUptoCard : Claim7 := { stood := { row := inflateBackUptoRow, standIns := [], harness := (true, "39eac843fc7f645430ac036393bfc41c5db95678fe9f9565720098f0fcd48b5d"), looks := true }, kinds := [], alts := [], laidByText := true, laidKinds := [.widerDeep, .widerDeep, .widerDeep], laidTests := true, laidLooks := .later }
def InflateBackUptoCardSaid : Prop := Claim7.holds Tryd.pinned (.plain (OpenSpec.upto inflateBackSpec)) inflateBackUptoCard

/-- THE SECOND FORM's CARD OF 'inkwelllaw10.InflateCuts'. -/
def inflateCutsUptoCard : Claim7 := { stood := { row := inflateCutsUptoRow, standIns := [], harness := (true, "39eac843fc7f645430ac036393bfc41c5db95678fe9f9565720098f0fcd48b5d"), looks := true }, kinds := [], alts := [], laidByText := true, laidKinds := [.widerDeep, .widerDeep, .widerDeep], laidTests := true, laidLooks := .later }
def InflateCutsUptoCardSaid : Prop := Claim7.holds Tryd.pinned (.plain (OpenSpec.upto inflateCutsSpec)) inflateCutsUptoCard

/-- THE SECOND FORM's CARD OF 'inkwelllaw10.InflateJoins'. -/
def inflateJoinsUptoCard : Claim7 := { stood := { row := inflateJoinsUptoRow, standIns := [], harness := (true, "39eac843fc7f645430ac036393bfc41c5db95678fe9f9565720098f0fcd48b5d"), looks := true }, kinds := [], alts := [], laidByText := true, laidKinds := [.widerDeep, .widerDeep, .widerDeep], laidTests := true, laidLooks := .later }
def InflateJoinsUptoCardSaid : Prop := Claim7.holds Tryd.pinned (.plain (OpenSpec.upto inflateJoinsSpec)) inflateJoinsUptoCard

/-- THE SECOND FORM's CARD OF 'inkwelllaw10.InflateEmpties'. -/
def inflateEmptiesUptoCard : Claim7 := { stood := { row := inflateEmptiesUptoRow, standIns := [], harness := (true, "39eac843fc7f645430ac036393bfc41c5db95678fe9f9565720098f0fcd48b5d"), looks := true }, kinds := [], alts := [], laidByText := true, laidKinds := [.widerDeep, .widerDeep, .widerDeep], laidTests := true, laidLooks := .later }
def InflateEmptiesUptoCardSaid : Prop := Claim7.holds Tryd.pinned (.plain (OpenSpec.upto inflateEmptiesSpec)) inflateEmptiesUptoCard
end Rows
end Go.Proofs.YtkjoncllnlmdgaaDoor
