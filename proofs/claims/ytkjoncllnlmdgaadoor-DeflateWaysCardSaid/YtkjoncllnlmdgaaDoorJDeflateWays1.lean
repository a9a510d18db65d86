/-
  Texts joined into one file: DefZ, Laid, Laid9.
-/
import Derived.Test.YtkjoncllnlmdgaaDoorJAw910
import Derived.Test.YtkjoncllnlmdgaaDoorJAw916
import Derived.Test.YtkjoncllnlmdgaaDoorJAw92
import Derived.ProofKit
import Derived.LaidMore
import Derived.OpenShut
import Derived.MakeChecks
/-
  How long what is pressed is, at least.
-/
namespace Go.Proofs.YtkjoncllnlmdgaaDoor
open Go.RowKit

theorem dynS_pos (bs : List Int) : 14 ≤ (dynS bs).length := by
  have h := putS_len (lenA (pressL bs)) (lenD (pressL bs)) (by rw [lenA_length]; decide) (by rw [lenA_length]; decide) (by rw [lenD_length]; decide) (by rw [lenD_length]; decide) (lenA_rng _) (lenD_rng _)
  unfold dynS
  rw [List.length_append, List.length_append]
  omega
theorem fixedS_pos (bs : List Int) : 3 ≤ (fixedS bs).length := by
  unfold fixedS
  rw [List.length_append]
  show 3 ≤ 3 + _
  omega
theorem pressB_pos (bs : List Int) (h : bs.length ≤ 65535) : 0 < (pressB bs).length := by
  have h1 := dynS_pos bs
  have h2 := fixedS_pos bs
  have h3 := storedB_length h
  rcases pressB_cases bs with e | e | e <;> rw [e]
  · omega
  · rw [packB_length]; omega
  · rw [packB_length]; omega
end Go.Proofs.YtkjoncllnlmdgaaDoor
/-
  What the rows' condition on the listed tables gives the walks: the tables' cells.
-/
namespace Go.Proofs.YtkjoncllnlmdgaaDoor
open Go.RowKit

/-- An array of pairs of numbers that reads as rows holds them, two cells a row. -/
theorem pairs_of_trod {H : Type} {enc : TypeId × Value → H} {P : Program} {w : World} {base : Nat} {sp : Nat → Bool} {held : Bool} {fuel t e n : Nat} {f0 f1 : Field} {cs : List Value} {rows : List (Int × Int)} {p : List MemPlace}
    (ht : P.underlying t = some (.array n e)) (he : P.underlying e = some (.struct #[f0, f1])) (o0 : f0.offset = 0) (o1 : f1.offset = 1) (k0 : P.underlying f0.type = some (.int .i64)) (k1 : P.underlying f1.type = some (.int .i64))
    (c0 : P.cellsOf f0.type = 1) (c1 : P.cellsOf f1.type = 1) (ce : P.cellsOf e = 2)
    (h : DataW.trod enc P w base sp held fuel t cs = some (.agg (rows.map fun r => .agg [.lit (.int .i64 r.1), .lit (.int .i64 r.2)]), p)) :
    ∀ j, j < rows.length → cs[j * 2]? = some (.int .i64 (rowL rows j)) ∧ cs[j * 2 + 1]? = some (.int .i64 (rowB rows j)) := by
  obtain ⟨xs, m, rfl, hx, hlen, hn, hel⟩ := DataW.trod_array ht h
  simp only [Prod.mk.injEq, DataW.agg.injEq] at hx
  intro j hj
  have hxl : xs.length = rows.length := by have := congrArg List.length hx.1; simpa using this.symm
  have hz := hel j (by omega)
  obtain ⟨x, hxj⟩ : ∃ x, xs[j]? = some x := ⟨xs[j]'(by omega), by simp [List.getElem?_eq_getElem (show j < xs.length by omega)]⟩
  rw [hxj, ce] at hz
  obtain ⟨y0, y1, n', hxe, hl, h0, h1⟩ := ChangeShapes.trod_struct2 he hz
  obtain ⟨r0, e0, f0', _⟩ := DataW.trod_int k0 h0
  obtain ⟨r1, e1, f1', _⟩ := DataW.trod_int k1 h1
  rw [o0, c0] at e0
  rw [o1, c1] at e1
  have hx1 : x.1 = (DataW.agg [DataW.lit (.int .i64 (rowL rows j)), DataW.lit (.int .i64 (rowB rows j))] : DataW H) := by
    have := congrArg (·[j]?) hx.1
    simp only [List.getElem?_map, hxj, Option.map_some, List.getElem?_eq_getElem hj] at this
    unfold rowL rowB
    rw [List.getD_eq_getElem?_getD, List.getElem?_eq_getElem hj]
    exact (Option.some.inj this).symm
  rw [hxe, f0', f1'] at hx1
  simp at hx1
  obtain ⟨hx1, hx2⟩ := hx1
  subst hx1 hx2
  have g0 := congrArg (·[0]?) e0
  have g1 := congrArg (·[0]?) e1
  simp [List.getElem?_drop] at g0 g1
  exact ⟨g0, g1⟩

theorem gLens : Tryd.prog.globalNamed "inkwell/syms.lengths" = some 1 := by kernel_rfl
theorem gDists : Tryd.prog.globalNamed "inkwell/syms.distances" = some 2 := by kernel_rfl
theorem tLens : (Tryd.prog.globals[1]?).map (·.type) = some 155 := by kernel_rfl
theorem tDists : (Tryd.prog.globals[2]?).map (·.type) = some 156 := by kernel_rfl

theorem tabs_of_laid {W : World} (h : laidMetH Tryd.prog [("inkwell/syms.lengths", Rows.laid_inkwell_syms_lengths), ("inkwell/syms.distances", Rows.laid_inkwell_syms_distances)] W) : Tabs W := by
  rw [MakeChecks.laidMetH_plain _ _ _ (by kernel_rfl)] at h
  obtain ⟨ps, ⟨g0, t0, cs0, n0, p0, q0, hg0, ht0, hv0, hd0, ⟨g1, t1, cs1, n1, p1, q1, hg1, ht1, hv1, hd1, _, _⟩, _⟩, _, _⟩ := h
  obtain rfl := Option.some.inj (gLens.symm.trans hg0)
  obtain rfl := Option.some.inj (gDists.symm.trans hg1)
  obtain rfl := Option.some.inj (tLens.symm.trans ht0)
  obtain rfl := Option.some.inj (tDists.symm.trans ht1)
  have u0 := pairs_of_trod (rows := lens) Tryd.underlying155 Tryd.underlying154 rfl rfl Tryd.underlying3 Tryd.underlying3 (by kernel_rfl) (by kernel_rfl) (by kernel_rfl) hd0
  have u1 := pairs_of_trod (rows := dists) Tryd.underlying156 Tryd.underlying154 rfl rfl Tryd.underlying3 Tryd.underlying3 (by kernel_rfl) (by kernel_rfl) (by kernel_rfl) hd1
  refine ⟨fun j hj => ?_, fun j hj => ?_⟩
  · have := u0 j hj
    simp only [Array.getElem?_toList] at this
    rw [World.var?_cell hg0 hv0, World.var?_cell hg0 hv0]
    exact this
  · have := u1 j hj
    simp only [Array.getElem?_toList] at this
    rw [World.var?_cell hg1 hv1, World.var?_cell hg1 hv1]
    exact this
end Go.Proofs.YtkjoncllnlmdgaaDoor
/-
  What the rows' condition on the three listed tables gives the walks; small facts on rows.
-/
namespace Go.Proofs.YtkjoncllnlmdgaaDoor
open Go.RowKit

def Tabs9 (w : World) : Prop := Tabs w ∧ OrdAt w
theorem tabs9_of_laid {W : World} (h : laidMetH Tryd.prog [("inkwell/syms.lengths", Rows.laid_inkwell_syms_lengths), ("inkwell/syms.distances", Rows.laid_inkwell_syms_distances), ("inkwell/codes.order", Rows.laid_inkwell_codes_order)] W) : Tabs9 W := by
  rw [MakeChecks.laidMetH_plain _ _ _ (by kernel_rfl)] at h
  obtain ⟨ps, ⟨g0, t0, cs0, n0, p0, q0, hg0, ht0, hv0, hd0, ⟨g1, t1, cs1, n1, p1, q1, hg1, ht1, hv1, hd1, ⟨g2, t2, cs2, n2, p2, q2, hg2, ht2, hv2, hd2, _, _⟩, _⟩, _⟩, _, _⟩ := h
  obtain rfl := Option.some.inj (gLens.symm.trans hg0)
  obtain rfl := Option.some.inj (gDists.symm.trans hg1)
  obtain rfl := Option.some.inj (gOrd.symm.trans hg2)
  obtain rfl := Option.some.inj (tLens.symm.trans ht0)
  obtain rfl := Option.some.inj (tDists.symm.trans ht1)
  obtain rfl := Option.some.inj (tOrd.symm.trans ht2)
  have u0 := pairs_of_trod (rows := lens) Tryd.underlying155 Tryd.underlying154 rfl rfl Tryd.underlying3 Tryd.underlying3 (by kernel_rfl) (by kernel_rfl) (by kernel_rfl) hd0
  have u1 := pairs_of_trod (rows := dists) Tryd.underlying156 Tryd.underlying154 rfl rfl Tryd.underlying3 Tryd.underlying3 (by kernel_rfl) (by kernel_rfl) (by kernel_rfl) hd1
  have u2 := ints_of_trod (nums := ordI) Tryd.underlying65 Tryd.underlying3 (by kernel_rfl) hd2
  refine ⟨⟨fun j hj => ?_, fun j hj => ?_⟩, fun j hj => ?_⟩
  · have := u0 j hj
    simp only [Array.getElem?_toList] at this
    rw [World.var?_cell hg0 hv0, World.var?_cell hg0 hv0]
    exact this
  · have := u1 j hj
    simp only [Array.getElem?_toList] at this
    rw [World.var?_cell hg1 hv1, World.var?_cell hg1 hv1]
    exact this
  · have := u2 j hj
    simp only [Array.getElem?_toList] at this
    rw [World.var?_cell hg2 hv2, this, rd_ordI j hj]
theorem row_none {w : World} {k : IntKind} {A : Option Addr} {len cap : Nat} {zs : List Int} (hz : IsRow k w A len cap zs) : A = none → len = 0 ∧ cap = 0 := by
  intro e
  rcases hz with ⟨_, h1, h2, _⟩ | ⟨x, rfl, _⟩
  · exact ⟨h1, h2⟩
  · cases e
theorem row_cap {w : World} {k : IntKind} {A : Option Addr} {len cap : Nat} {zs : List Int} (hz : IsRow k w A len cap zs) : len ≤ cap := by
  rcases hz with ⟨_, h1, h2, _⟩ | ⟨x, rfl, h, _⟩
  · omega
  · exact h
end Go.Proofs.YtkjoncllnlmdgaaDoor
