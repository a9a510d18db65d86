/-
  Texts joined into one file: Laid, Laid9, DeflateZeros.
-/
import Derived.Test.YtkjoncllnlmdgaaDoorJAw92
import Derived.ProofKit
import Derived.LaidMore
import Derived.OpenShut
import Derived.MakeChecks
import Derived.Test.YtkjoncllnlmdgaaDoorJAw916
import Derived.Test.YtkjoncllnlmdgaaDoorJAw917
import Derived.Test.YtkjoncllnlmdgaaDoorJAw910
/-
  What the rows' condition on the listed tables gives the walks: the tables' cells.
-/
namespace Go.Proofs.YtkjoncllnlmdgaaDoor
open Go.RowKit

/-- An array of pairs of numbers that reads as rows holds them, two cells a row. -/
theorem pairs_of_trod {H : Type} {enc : TypeId × Value → H} {P : Program} {w : World} {base : Nat} {sp : Nat → Bool} {held : Bool} {fuel t e n : Nat} {f0 f1 : Field} {cs : List Value} {rows : List (Int × Int)} {p : List MemPlace}
    (ht : P.underlying t = some (.array n e)) (he : P.underlying e = some (.struct #[f0, f1])) (o0 : f0.offset = 0) (o1 : f1.offset = 1) (k0 : P.underlying f0.type = some (.int .i64)) (k1 : P.underlying f1.type = some (.int .i64))
    (c0 : P.cellsOf f0.type = 1) (c1 : P.cellsOf f1.type = 1) (ce : P.cellsOf e = 2)
    (h : DataW.trod enc P w base sp held fuel t cs = some (.agg (rows.map fun r => .agg [.lit (.int .i64 r.1), .lit (.int .i64 r.2)]), p)) :
    ∀ j, j < rows.length → cs[j * 2]? = some (.int .i64 (rowL rows j)) ∧ cs[j * 2 + 1]? = some (.int .i64 (rowB rows j)) := by
  obtain ⟨xs, m, rfl, hx, hlen, hn, hel⟩ := DataW.trod_array ht h
  simp only [Prod.mk.injEq, DataW.agg.injEq] at hx
  intro j hj
  have hxl : xs.length = rows.length := by have := congrArg List.length hx.1; simpa using this.symm
  have hz := hel j (by omega)
  obtain ⟨x, hxj⟩ : ∃ x, xs[j]? = some x := ⟨xs[j]'(by omega), by simp [List.getElem?_eq_getElem (show j < xs.length by omega)]⟩
  rw [hxj, ce] at hz
  obtain ⟨y0, y1, n', hxe, hl, h0, h1⟩ := ChangeShapes.trod_struct2 he hz
  obtain ⟨r0, e0, f0', _⟩ := DataW.trod_int k0 h0
  obtain ⟨r1, e1, f1', _⟩ := DataW.trod_int k1 h1
  rw [o0, c0] at e0
  rw [o1, c1] at e1
  have hx1 : x.1 = (DataW.agg [DataW.lit (.int .i64 (rowL rows j)), DataW.lit (.int .i64 (rowB rows j))] : DataW H) := by
    have := congrArg (·[j]?) hx.1
    simp only [List.getElem?_map, hxj, Option.map_some, List.getElem?_eq_getElem hj] at this
    unfold rowL rowB
    rw [List.getD_eq_getElem?_getD, List.getElem?_eq_getElem hj]
    exact (Option.some.inj this).symm
  rw [hxe, f0', f1'] at hx1
  simp at hx1
  obtain ⟨hx1, hx2⟩ := hx1
  subst hx1 hx2
  have g0 := congrArg (·[0]?) e0
  have g1 := congrArg (·[0]?) e1
  simp [List.getElem?_drop] at g0 g1
  exact ⟨g0, g1⟩

theorem gLens : Tryd.prog.globalNamed "inkwell/syms.lengths" = some 1 := by kernel_rfl
theorem gDists : Tryd.prog.globalNamed "inkwell/syms.distances" = some 2 := by kernel_rfl
theorem tLens : (Tryd.prog.globals[1]?).map (·.type) = some 155 := by kernel_rfl
theorem tDists : (Tryd.prog.globals[2]?).map (·.type) = some 156 := by kernel_rfl

theorem tabs_of_laid {W : World} (h : laidMetH Tryd.prog [("inkwell/syms.lengths", Rows.laid_inkwell_syms_lengths), ("inkwell/syms.distances", Rows.laid_inkwell_syms_distances)] W) : Tabs W := by
  rw [MakeChecks.laidMetH_plain _ _ _ (by kernel_rfl)] at h
  obtain ⟨ps, ⟨g0, t0, cs0, n0, p0, q0, hg0, ht0, hv0, hd0, ⟨g1, t1, cs1, n1, p1, q1, hg1, ht1, hv1, hd1, _, _⟩, _⟩, _, _⟩ := h
  obtain rfl := Option.some.inj (gLens.symm.trans hg0)
  obtain rfl := Option.some.inj (gDists.symm.trans hg1)
  obtain rfl := Option.some.inj (tLens.symm.trans ht0)
  obtain rfl := Option.some.inj (tDists.symm.trans ht1)
  have u0 := pairs_of_trod (rows := lens) Tryd.underlying155 Tryd.underlying154 rfl rfl Tryd.underlying3 Tryd.underlying3 (by kernel_rfl) (by kernel_rfl) (by kernel_rfl) hd0
  have u1 := pairs_of_trod (rows := dists) Tryd.underlying156 Tryd.underlying154 rfl rfl Tryd.underlying3 Tryd.underlying3 (by kernel_rfl) (by kernel_rfl) (by kernel_rfl) hd1
  refine ⟨fun j hj => ?_, fun j hj => ?_⟩
  · have := u0 j hj
    simp only [Array.getElem?_toList] at this
    rw [World.var?_cell hg0 hv0, World.var?_cell hg0 hv0]
    exact this
  · have := u1 j hj
    simp only [Array.getElem?_toList] at this
    rw [World.var?_cell hg1 hv1, World.var?_cell hg1 hv1]
    exact this
end Go.Proofs.YtkjoncllnlmdgaaDoor
/-
  What the rows' condition on the three listed tables gives the walks; small facts on rows.
-/
namespace Go.Proofs.YtkjoncllnlmdgaaDoor
open Go.RowKit

def Tabs9 (w : World) : Prop := Tabs w ∧ OrdAt w
theorem tabs9_of_laid {W : World} (h : laidMetH Tryd.prog [("inkwell/syms.lengths", Rows.laid_inkwell_syms_lengths), ("inkwell/syms.distances", Rows.laid_inkwell_syms_distances), ("inkwell/codes.order", Rows.laid_inkwell_codes_order)] W) : Tabs9 W := by
  rw [MakeChecks.laidMetH_plain _ _ _ (by kernel_rfl)] at h
  obtain ⟨ps, ⟨g0, t0, cs0, n0, p0, q0, hg0, ht0, hv0, hd0, ⟨g1, t1, cs1, n1, p1, q1, hg1, ht1, hv1, hd1, ⟨g2, t2, cs2, n2, p2, q2, hg2, ht2, hv2, hd2, _, _⟩, _⟩, _⟩, _, _⟩ := h
  obtain rfl := Option.some.inj (gLens.symm.trans hg0)
  obtain rfl := Option.some.inj (gDists.symm.trans hg1)
  obtain rfl := Option.some.inj (gOrd.symm.trans hg2)
  obtain rfl := Option.some.inj (tLens.symm.trans ht0)
  obtain rfl := Option.some.inj (tDists.symm.trans ht1)
  obtain rfl := Option.some.inj (tOrd.symm.trans ht2)
  have u0 := pairs_of_trod (rows := lens) Tryd.underlying155 Tryd.underlying154 rfl rfl Tryd.underlying3 Tryd.underlying3 (by kernel_rfl) (by kernel_rfl) (by kernel_rfl) hd0
  have u1 := pairs_of_trod (rows := dists) Tryd.underlying156 Tryd.underlying154 rfl rfl Tryd.underlying3 Tryd.underlying3 (by kernel_rfl) (by kernel_rfl) (by kernel_rfl) hd1
  have u2 := ints_of_trod (nums := ordI) Tryd.underlying65 Tryd.underlying3 (by kernel_rfl) hd2
  refine ⟨⟨fun j hj => ?_, fun j hj => ?_⟩, fun j hj => ?_⟩
  · have := u0 j hj
    simp only [Array.getElem?_toList] at this
    rw [World.var?_cell hg0 hv0, World.var?_cell hg0 hv0]
    exact this
  · have := u1 j hj
    simp only [Array.getElem?_toList] at this
    rw [World.var?_cell hg1 hv1, World.var?_cell hg1 hv1]
    exact this
  · have := u2 j hj
    simp only [Array.getElem?_toList] at this
    rw [World.var?_cell hg2 hv2, this, rd_ordI j hj]
theorem row_none {w : World} {k : IntKind} {A : Option Addr} {len cap : Nat} {zs : List Int} (hz : IsRow k w A len cap zs) : A = none → len = 0 ∧ cap = 0 := by
  intro e
  rcases hz with ⟨_, h1, h2, _⟩ | ⟨x, rfl, _⟩
  · exact ⟨h1, h2⟩
  · cases e
theorem row_cap {w : World} {k : IntKind} {A : Option Addr} {len cap : Nat} {zs : List Int} (hz : IsRow k w A len cap zs) : len ≤ cap := by
  rcases hz with ⟨_, h1, h2, _⟩ | ⟨x, rfl, h, _⟩
  · omega
  · exact h
end Go.Proofs.YtkjoncllnlmdgaaDoor
/-
  The walk of the law DeflateZeros.
-/
namespace Go.Proofs.YtkjoncllnlmdgaaDoor
open Go.RowKit

set_option maxHeartbeats 1000000 in
set_option maxRecDepth 100000 in
theorem DeflateZeros_calls (c n : Int) (w : World) (hc : 0 ≤ c ∧ c ≤ 255) (hn : 0 ≤ n ∧ n ≤ 65535) (hL : Tabs9 w) :
    Calls Tryd.prog 9 #[.int .u8 c, .int .u16 n] w fun e w' => e = .returned (.bool true) ∧ Below w.heap.size w w' := by
  have HT := Lib.hid hL.1
  have HO := Lib.hid hL.2
  have Hc := Lib.hid hc
  obtain ⟨hn0, hn1⟩ := hn
  obtain ⟨k, hk⟩ : ∃ k : Nat, n % 6000 = k := ⟨(n % 6000).toNat, by omega⟩
  have hk6 : k < 6000 := by omega
  have hkn : k ≤ 6000 := by omega
  have HK := Lib.hid hk
  have hpr := press_rep k c hk6
  have hpi : ((pressB (List.replicate k c)).length : Int) ≤ 12 + (k : Int) / 100 := by omega
  obtain ⟨m, hm⟩ : ∃ m, m = (pressB (List.replicate k c)).length := ⟨_, rfl⟩
  rw [← hm] at hpi
  have Hm := Lib.hid hm
  clear hL hc hk hpr hm
  go_enter Tryd.func9, Tryd.ntmps9
  go_wp2_with fail
  refine (awake9_calls _ HT.out HO.out).mono ?_
  rintro e w1 ⟨rfl, hb1⟩
  have Hb1 := Lib.hid hb1
  have hs1 := hb1.size
  clear hb1
  go_upto_region 4 with fail
  rw [HK.out]
  go_wp2_with (at_make; refine wpList_mk1 (base := w.heap.size) (n := k) _ rfl _ _ rfl elB rfl rfl rfl rfl (by omega) (by omega) ?_; intro w2 hown2 hb2 hsz2; have Hown2 := Lib.hid hown2; have Hb2 := Lib.hid hb2; clear hown2 hb2)
  go_loopw [7] (fun i wr => ∃ j : Nat, j ≤ k ∧ i = .int .i64 j ∧ Hid (wr.ownsRow w.heap.size 5 1 (.slice (some ⟨w1.heap.size, 0, none⟩) k k) k (ints .u8 (List.replicate j c ++ List.replicate (k - j) 0))) ∧ Hid (Below w1.heap.size w1 wr)) (fun i _ => k - (intOf i).toNat)
  case atStart => exact ⟨0, by omega, rfl, Hown2.out, Hb2.out⟩
  case round =>
    obtain ⟨j, hj, rfl, HO2, HB2⟩ := hrel
    by_cases hlt : j < k
    · have z := HO2.out.cellAt j (by omega)
      rw [ints_get (by rw [List.length_append, List.length_replicate, List.length_replicate]; omega)] at z
      have f0 := HO2.out.frozenAt j
      obtain ⟨y, hy⟩ : ∃ y, y = rd (List.replicate j c ++ List.replicate (k - j) 0) j := ⟨_, rfl⟩
      rw [← hy] at z
      clear hy
      go_wp2
      go_roundw
      case rel =>
        refine ⟨j + 1, by omega, by go_num, ?_, HB2.out.setCell (p := ⟨w1.heap.size, j, none⟩) (Nat.le_refl _) _⟩
        have h9 := own_store HO2.out j (.int .u8 c)
        rw [← ints_set] at h9
        have e9 : (List.replicate j c ++ List.replicate (k - j) 0).set j c = List.replicate (j + 1) c ++ List.replicate (k - (j + 1)) 0 := by
          rw [List.set_append_right _ _ (by rw [List.length_replicate]; exact Nat.le_refl _), List.length_replicate, Nat.sub_self, show k - j = (k - (j + 1)) + 1 from by omega, List.replicate_succ (n := k - (j + 1)), List.set_cons_zero, List.replicate_succ' (n := j)]
          simp
        rw [e9] at h9
        exact h9
      case measure => simp [intOf]; omega
    · obtain rfl : j = k := by omega
      have ho := HO2.out
      rw [Nat.sub_self, List.replicate_zero, List.append_nil] at ho
      obtain ⟨_, _, e5, _, hr⟩ := own_rd ho
      cases e5
      have Hr := Lib.hid hr
      have HB := Lib.hid (below_seq Hb1.out (Nat.le_refl _) HB2.out)
      clear ho hr
      go_wp2_with fail
      refine (DPress_calls (some ⟨w1.heap.size, 0, none⟩) j j (List.replicate j c) _ Hr.out (fun i hi => by rw [rd_rep hi]; exact Hc.out) (fun e => by cases e) (Nat.le_refl _) (by omega) (HT.out.below HB.out) (fun i hi => kept_cell HB.out (HO.out i hi))).mono ?_
      rintro e w3 ⟨v3, rfl, ho3, hb3⟩
      rw [← Hm.out] at ho3
      obtain ⟨A3, c3, rfl⟩ := own_slice ho3
      have HB3 := Lib.hid (below_seq HB.out (Nat.le_refl _) hb3)
      clear ho3 hb3
      go_wp2
      go_ret
      exact ⟨rfl, HB3.out⟩
theorem DeflateZeros_walk (c n : Int) (w : World) (h : (Lit.int .u8 c).wf = true) (h2 : (Lit.int .u16 n).wf = true) (hL : Tabs9 w) :
    Calls Tryd.prog 9 #[.int .u8 c, .int .u16 n] w fun e w' => e = .returned (.bool true) ∧ Below w.heap.size w w' := DeflateZeros_calls c n w (u8_of_wf h) (u16_of_wf h2) hL
end Go.Proofs.YtkjoncllnlmdgaaDoor
