/-
  Texts joined into one file: ChunkK, SumB, Laid, Laid22, AwC, HuffR.
-/
import Derived.Test.YtendohnkhbgfbaaDoorJRefPk6
import Derived.Test.YtendohnkhbgfbaaDoorJRefPk21
import Derived.Test.YtendohnkhbgfbaaDoorJRefPk4
import Derived.Test.YtendohnkhbgfbaaDoorJRefPk7
import Derived.ProofKit
import Derived.LaidMore
import Derived.OpenShut
import Derived.MakeChecks
import Derived.Test.YtendohnkhbgfbaaDoorJRefPk20
import Derived.Test.YtendohnkhbgfbaaDoorJRefPk9
namespace Go.Proofs.YtendohnkhbgfbaaDoor
open Go.RowKit

def packK (bs : List Int) : Int × List Int := if 256 ≤ bs.length ∧ (pressB bs).length < bs.length then (2, pressB bs) else (1, bs)
theorem packK_pos {bs : List Int} (h : 256 ≤ bs.length) (h2 : (pressB bs).length < bs.length) : packK bs = (2, pressB bs) := if_pos ⟨h, h2⟩
theorem packK_neg {bs : List Int} (h : ¬ (256 ≤ bs.length ∧ (pressB bs).length < bs.length)) : packK bs = (1, bs) := if_neg h
theorem packK_kind (bs : List Int) : (packK bs).1 = 1 ∨ (packK bs).1 = 2 := by
 unfold packK
 split
 ·exact .inr rfl
 ·exact .inl rfl
theorem packK_le (bs : List Int) : (packK bs).2.length ≤ bs.length := by
 unfold packK
 split
 ·rename_i h; exact Nat.le_of_lt h.2
 ·exact Nat.le_refl _
theorem packK_byte {bs : List Int} (h : ∀ x ∈ bs, 0 ≤ x ∧ x ≤ 255) : ∀ x ∈ (packK bs).2, 0 ≤ x ∧ x ≤ 255 := by
 unfold packK
 split
 ·exact all_of_rd (pressB_byte h)
 ·exact h
theorem two_c0 {w : World} {g : Nat} {v0 v1 : Value} {T : TypeId} (h : w.heap[g]? = some (.cells #[v0, v1] T (0, 0))) : w.cell? ⟨g, 0, none⟩ = some v0 := by rw [cell_of_row w g _ _ _ (0, 0) h]; rfl
theorem two_c1 {w : World} {g : Nat} {v0 v1 : Value} {T : TypeId} (h : w.heap[g]? = some (.cells #[v0, v1] T (0, 0))) : w.cell? ⟨g, 1, none⟩ = some v1 := by rw [cell_of_row w g _ _ _ (0, 0) h]; rfl
theorem two_set {w : World} {g : Nat} {v0 v1 : Value} {T : TypeId} (h : w.heap[g]? = some (.cells #[v0, v1] T (0, 0))) (u0 u1 : Value) : ((w.setCell ⟨g, 0, none⟩ u0).setCell ⟨g, 1, none⟩ u1).heap[g]? = some (.cells #[u0, u1] T (0, 0)) :=
 heap_setCell_same _ g 1 _ _ _ (heap_setCell_same w g 0 _ _ _ h)
set_option maxHeartbeats 1000000 in set_option maxRecDepth 100000 in
theorem ChPack_calls (A : Option Addr) (len cap : Nat) (bs : List Int) (w : World) (hR : Rd w .u8 A len bs) (hb : ∀ x ∈ bs, 0 ≤ x ∧ x ≤ 255) (hA : A = none → len = 0 ∧ cap = 0) (hcap : len ≤ cap) (hlen : len ≤ 100000) (hT : Tabs w) (hO : OrdAt w) :
  Calls Tryd.prog 10 #[.slice A len cap] w fun e w' => ∃ A' n' c', e = .returned (.agg #[.int .i64 (packK bs).1, .slice A' n' c']) ∧ Hid (w'.ownsRow w.heap.size 5 1 (.slice A' n' c') n' (ints .u8 (packK bs).2)) ∧ Below w.heap.size w w' := by
 have HR := Lib.hid hR
 have Hb := Lib.hid hb
 have HA := Lib.hid hA
 have HT := Lib.hid hT
 have HO := Lib.hid hO
 have Hl := Lib.hid hR.1
 clear hR hb hA hT hO
 go_enter Tryd.func10, Tryd.ntmps10
 obtain ⟨g, hg⟩ : ∃ g, g = w.heap.size := ⟨_, rfl⟩
 have HG := Lib.hid hg
 go_upto_region 1 with fail
 obtain ⟨w0, hw0⟩ : ∃ X, X = w.alloc (.cells #[.int .i64 0, .slice none 0 0] 26) := ⟨_, rfl⟩
 rw [← hw0, ← hg]
 have hb0 : Below w.heap.size w w0 := by rw [hw0]; exact (Below.refl _ _).alloc (Nat.le_refl _) _
 have hrow0 : w0.heap[g]? = some (.cells #[.int .i64 0, .slice none 0 0] 26 (0, 0)) := by rw [hw0, hg]; exact heap_alloc_new w _
 have HB0 := Lib.hid hb0
 have HR0 := Lib.hid hrow0
 clear hw0 hb0 hrow0 hg
 by_cases h256 : 256 ≤ len
 ·go_wp2_with fail
  refine (DPress_calls A len cap bs _ (HR.out.below HB0.out) (fun j hj => rd_bytes Hb.out j (by rw [Hl.out]; exact hj)) HA.out hcap hlen (HT.out.below HB0.out) (fun j hj => kept_cell HB0.out (HO.out j hj))).mono ?_
  rintro e w1 ⟨v1, rfl, ho1, hb1⟩
  obtain ⟨A1, c1, rfl⟩ := own_slice ho1
  have hrow1 : w1.heap[g]? = some (.cells #[.int .i64 0, .slice none 0 0] 26 (0, 0)) := (hb1.block g (Array.getElem?_eq_some_iff.1 HR0.out).1).trans HR0.out
  have q0 : w1.cell? ⟨g, 0, none⟩ = some (.int .i64 0) := by rw [cell_of_row w1 g _ _ _ (0, 0) hrow1]; rfl
  have q1 : w1.cell? ⟨g, 1, none⟩ = some (.slice none 0 0) := by rw [cell_of_row w1 g _ _ _ (0, 0) hrow1]; rfl
  have f0 : w1.frozen? ⟨g, 0, none⟩ = false := frozen_of_row w1 g 0 _ _ hrow1
  have f1 : w1.frozen? ⟨g, 1, none⟩ = false := frozen_of_row w1 g 1 _ _ hrow1
  have HR1 := Lib.hid hrow1
  have HO1 := Lib.hid (own_mono ho1 HB0.out.size)
  have HB1 := Lib.hid (below_seq HB0.out (Nat.le_refl _) hb1)
  clear ho1 hb1 hrow1
  obtain ⟨m1, hm1⟩ : ∃ m1, m1 = (pressB bs).length := ⟨_, rfl⟩
  rw [← hm1] at HO1 ⊢
  by_cases hlt : m1 < len
  ·have hpk := packK_pos (bs := bs) (by rw [Hl.out]; exact h256) (by rw [Hl.out, ← hm1]; exact hlt)
   have Hpk := Lib.hid hpk
   clear hm1 hpk
   go_wp2_with fail
   have hrow9 : ((w1.setCell ⟨g, 0, none⟩ (.int .i64 2)).setCell ⟨g, 1, none⟩ (.slice A1 m1 c1)).heap[g]? = some (.cells #[.int .i64 2, .slice A1 m1 c1] 26 (0, 0)) := two_set HR1.out _ _
   have hl := run_loadVar_row (P := Tryd.prog) _ g 26 26 _ _ _ hrow9 Tryd.underlying26 rfl (by kernel_rfl)
   have hf9 : Fr w1 ((w1.setCell ⟨g, 0, none⟩ (.int .i64 2)).setCell ⟨g, 1, none⟩ (.slice A1 m1 c1)) [some g] := ((Fr.refl _ _).set _ _ (.inl (by simp))).set _ _ (.inl (by simp))
   refine bodyPost_ret (v := .agg #[.int .i64 2, .slice A1 m1 c1]) ?_ rfl ⟨A1, m1, c1, by rw [Hpk.out], ?_, ?_⟩
   ·simp [results, Tryd.results10, asAddr, hl]
   ·rw [Hpk.out]
    exact Lib.hid (own_fr HO1.out hf9 (fun o ho => by simp at ho; subst ho; exact own_apart HR1.out (by decide) HO1.out))
   ·exact HB1.out.trans (hf9.below (by have := HG.out; have := HB1.out.size; omega) (fun o ho j e => by simp at ho; subst ho; cases e; rw [HG.out]; exact Nat.le_refl _))
  ·have hpk := packK_neg (bs := bs) (by rw [Hl.out, ← hm1]; omega)
   have Hpk := Lib.hid hpk
   clear hm1 hpk q0 q1 f0 f1
   go_wp2_with (at_builtin; refine wpList_appRd rfl _ _ rfl elBy (ys := []) (own_lit0 w1 _) rfl rfl ((HR.out.below HB1.out).alloc _) HA.out (by omega) (by simp) ?_; intro v2 w2 ho2 hg2; rw [Nat.zero_add, List.nil_append] at ho2; obtain ⟨A2, c2, rfl⟩ := own_slice ho2; have hb2 : Below w1.heap.size w1 w2 := ((Below.refl _ _).alloc (Nat.le_refl _) _).grown hg2 (by simp) (fun k hk => by simp [Value.ownBlock] at hk; omega); have hrow2 : w2.heap[g]? = some (.cells #[.int .i64 0, .slice none 0 0] 26 (0, 0)) := (hb2.block g (Array.getElem?_eq_some_iff.1 HR1.out).1).trans HR1.out; have q0 := two_c0 hrow2; have q1 := two_c1 hrow2; have f0 : w2.frozen? ⟨g, 0, none⟩ = false := frozen_of_row w2 g 0 _ _ hrow2; have f1 : w2.frozen? ⟨g, 1, none⟩ = false := frozen_of_row w2 g 1 _ _ hrow2; have HR2 := Lib.hid hrow2; have HO2 := Lib.hid (own_mono ho2 HB1.out.size); have HB2 := Lib.hid (below_seq HB1.out (Nat.le_refl _) hb2); clear ho2 hg2 hb2 hrow2)
   have hrow9 : ((w2.setCell ⟨g, 0, none⟩ (.int .i64 1)).setCell ⟨g, 1, none⟩ (.slice A2 len c2)).heap[g]? = some (.cells #[.int .i64 1, .slice A2 len c2] 26 (0, 0)) := two_set HR2.out _ _
   have hl := run_loadVar_row (P := Tryd.prog) _ g 26 26 _ _ _ hrow9 Tryd.underlying26 rfl (by kernel_rfl)
   have hf9 : Fr w2 ((w2.setCell ⟨g, 0, none⟩ (.int .i64 1)).setCell ⟨g, 1, none⟩ (.slice A2 len c2)) [some g] := ((Fr.refl _ _).set _ _ (.inl (by simp))).set _ _ (.inl (by simp))
   refine bodyPost_ret (v := .agg #[.int .i64 1, .slice A2 len c2]) ?_ rfl ⟨A2, len, c2, by rw [Hpk.out], ?_, ?_⟩
   ·simp [results, Tryd.results10, asAddr, hl]
   ·rw [Hpk.out]
    exact Lib.hid (own_fr HO2.out hf9 (fun o ho => by simp at ho; subst ho; exact own_apart HR2.out (by decide) HO2.out))
   ·exact HB2.out.trans (hf9.below (by have := HG.out; have := HB2.out.size; omega) (fun o ho j e => by simp at ho; subst ho; cases e; rw [HG.out]; exact Nat.le_refl _))
 ·have hpk := packK_neg (bs := bs) (by rw [Hl.out]; omega)
  have Hpk := Lib.hid hpk
  clear hpk
  go_wp2_with (at_builtin; refine wpList_appRd rfl _ _ rfl elBy (ys := []) (own_lit0 w0 _) rfl rfl ((HR.out.below HB0.out).alloc _) HA.out (by omega) (by simp) ?_; intro v2 w2 ho2 hg2; rw [Nat.zero_add, List.nil_append] at ho2; obtain ⟨A2, c2, rfl⟩ := own_slice ho2; have hb2 : Below w0.heap.size w0 w2 := ((Below.refl _ _).alloc (Nat.le_refl _) _).grown hg2 (by simp) (fun k hk => by simp [Value.ownBlock] at hk; omega); have hrow2 : w2.heap[g]? = some (.cells #[.int .i64 0, .slice none 0 0] 26 (0, 0)) := (hb2.block g (Array.getElem?_eq_some_iff.1 HR0.out).1).trans HR0.out; have q0 := two_c0 hrow2; have q1 := two_c1 hrow2; have f0 : w2.frozen? ⟨g, 0, none⟩ = false := frozen_of_row w2 g 0 _ _ hrow2; have f1 : w2.frozen? ⟨g, 1, none⟩ = false := frozen_of_row w2 g 1 _ _ hrow2; have HR2 := Lib.hid hrow2; have HO2 := Lib.hid (own_mono ho2 HB0.out.size); have HB2 := Lib.hid (below_seq HB0.out (Nat.le_refl _) hb2); clear ho2 hg2 hb2 hrow2)
  have hrow9 : ((w2.setCell ⟨g, 0, none⟩ (.int .i64 1)).setCell ⟨g, 1, none⟩ (.slice A2 len c2)).heap[g]? = some (.cells #[.int .i64 1, .slice A2 len c2] 26 (0, 0)) := two_set HR2.out _ _
  have hl := run_loadVar_row (P := Tryd.prog) _ g 26 26 _ _ _ hrow9 Tryd.underlying26 rfl (by kernel_rfl)
  have hf9 : Fr w2 ((w2.setCell ⟨g, 0, none⟩ (.int .i64 1)).setCell ⟨g, 1, none⟩ (.slice A2 len c2)) [some g] := ((Fr.refl _ _).set _ _ (.inl (by simp))).set _ _ (.inl (by simp))
  refine bodyPost_ret (v := .agg #[.int .i64 1, .slice A2 len c2]) ?_ rfl ⟨A2, len, c2, by rw [Hpk.out], ?_, ?_⟩
  ·simp [results, Tryd.results10, asAddr, hl]
  ·rw [Hpk.out]
   exact Lib.hid (own_fr HO2.out hf9 (fun o ho => by simp at ho; subst ho; exact own_apart HR2.out (by decide) HO2.out))
  ·exact HB2.out.trans (hf9.below (by have := HG.out; have := HB2.out.size; omega) (fun o ho j e => by simp at ho; subst ho; cases e; rw [HG.out]; exact Nat.le_refl _))
end Go.Proofs.YtendohnkhbgfbaaDoor
namespace Go.Proofs.YtendohnkhbgfbaaDoor
open Go.RowKit

theorem wordB_byte (x : W32) : ∀ y ∈ wordB x, 0 ≤ y ∧ y ≤ 255 := by
 intro y hy
 have := x.isLt
 simp only [wordB, List.mem_cons, List.not_mem_nil, or_false] at hy
 rcases hy with h | h | h | h <;> subst h <;> omega
theorem shaS_byte (l : List Int) : ∀ y ∈ shaS l, 0 ≤ y ∧ y ≤ 255 := by
 intro y hy
 unfold shaS S8.bytes at hy
 simp only [List.mem_append] at hy
 rcases hy with ((((((h | h) | h) | h) | h) | h) | h) | h <;> exact wordB_byte _ y h
theorem sumB_byte (k : Int) (l : List Int) : ∀ y ∈ sumB k l, 0 ≤ y ∧ y ≤ 255 := fun y hy => shaS_byte _ y (List.mem_of_mem_take hy)
end Go.Proofs.YtendohnkhbgfbaaDoor
namespace Go.Proofs.YtendohnkhbgfbaaDoor
open Go.RowKit

theorem pairs_of_trod {H : Type} {enc : TypeId × Value → H} {P : Program} {w : World} {base : Nat} {sp : Nat → Bool} {held : Bool} {fuel t e n : Nat} {f0 f1 : Field} {cs : List Value} {rows : List (Int × Int)} {p : List MemPlace}
  (ht : P.underlying t = some (.array n e)) (he : P.underlying e = some (.struct #[f0, f1])) (o0 : f0.offset = 0) (o1 : f1.offset = 1) (k0 : P.underlying f0.type = some (.int .i64)) (k1 : P.underlying f1.type = some (.int .i64))
  (c0 : P.cellsOf f0.type = 1) (c1 : P.cellsOf f1.type = 1) (ce : P.cellsOf e = 2)
  (h : DataW.trod enc P w base sp held fuel t cs = some (.agg (rows.map fun r => .agg [.lit (.int .i64 r.1), .lit (.int .i64 r.2)]), p)) :
  ∀ j, j < rows.length → cs[j * 2]? = some (.int .i64 (rowL rows j)) ∧ cs[j * 2 + 1]? = some (.int .i64 (rowB rows j)) := by
 obtain ⟨xs, m, rfl, hx, hlen, hn, hel⟩ := DataW.trod_array ht h
 simp only [Prod.mk.injEq, DataW.agg.injEq] at hx
 intro j hj
 have hxl : xs.length = rows.length := by have := congrArg List.length hx.1; simpa using this.symm
 have hz := hel j (by omega)
 obtain ⟨x, hxj⟩ : ∃ x, xs[j]? = some x := ⟨xs[j]'(by omega), by simp [List.getElem?_eq_getElem (show j < xs.length by omega)]⟩
 rw [hxj, ce] at hz
 obtain ⟨y0, y1, n', hxe, hl, h0, h1⟩ := ChangeShapes.trod_struct2 he hz
 obtain ⟨r0, e0, f0', _⟩ := DataW.trod_int k0 h0
 obtain ⟨r1, e1, f1', _⟩ := DataW.trod_int k1 h1
 rw [o0, c0] at e0
 rw [o1, c1] at e1
 have hx1 : x.1 = (DataW.agg [DataW.lit (.int .i64 (rowL rows j)), DataW.lit (.int .i64 (rowB rows j))] : DataW H) := by
  have := congrArg (·[j]?) hx.1
  simp only [List.getElem?_map, hxj, Option.map_some, List.getElem?_eq_getElem hj] at this
  unfold rowL rowB
  rw [List.getD_eq_getElem?_getD, List.getElem?_eq_getElem hj]
  exact (Option.some.inj this).symm
 rw [hxe, f0', f1'] at hx1
 simp at hx1
 obtain ⟨hx1, hx2⟩ := hx1
 subst hx1 hx2
 have g0 := congrArg (·[0]?) e0
 have g1 := congrArg (·[0]?) e1
 simp [List.getElem?_drop] at g0 g1
 exact ⟨g0, g1⟩

theorem gLens : Tryd.prog.globalNamed "inkwell/syms.lengths" = some 4 := by kernel_rfl
theorem gDists : Tryd.prog.globalNamed "inkwell/syms.distances" = some 5 := by kernel_rfl
theorem tLens : (Tryd.prog.globals[4]?).map (·.type) = some 184 := by kernel_rfl
theorem tDists : (Tryd.prog.globals[5]?).map (·.type) = some 185 := by kernel_rfl

theorem tabs_of_laid {W : World} (h : laidMetH Tryd.prog [("inkwell/syms.lengths", Rows.laid_inkwell_syms_lengths), ("inkwell/syms.distances", Rows.laid_inkwell_syms_distances)] W) : Tabs W := by
 rw [MakeChecks.laidMetH_plain _ _ _ (by kernel_rfl)] at h
 obtain ⟨ps, ⟨g0, t0, cs0, n0, p0, q0, hg0, ht0, hv0, hd0, ⟨g1, t1, cs1, n1, p1, q1, hg1, ht1, hv1, hd1, _, _⟩, _⟩, _, _⟩ := h
 obtain rfl := Option.some.inj (gLens.symm.trans hg0)
 obtain rfl := Option.some.inj (gDists.symm.trans hg1)
 obtain rfl := Option.some.inj (tLens.symm.trans ht0)
 obtain rfl := Option.some.inj (tDists.symm.trans ht1)
 have u0 := pairs_of_trod (rows := lens) Tryd.underlying184 Tryd.underlying183 rfl rfl Tryd.underlying3 Tryd.underlying3 (by kernel_rfl) (by kernel_rfl) (by kernel_rfl) hd0
 have u1 := pairs_of_trod (rows := dists) Tryd.underlying185 Tryd.underlying183 rfl rfl Tryd.underlying3 Tryd.underlying3 (by kernel_rfl) (by kernel_rfl) (by kernel_rfl) hd1
 refine ⟨fun j hj => ?_, fun j hj => ?_⟩
 ·have := u0 j hj
  simp only [Array.getElem?_toList] at this
  rw [World.var?_cell hg0 hv0, World.var?_cell hg0 hv0]
  exact this
 ·have := u1 j hj
  simp only [Array.getElem?_toList] at this
  rw [World.var?_cell hg1 hv1, World.var?_cell hg1 hv1]
  exact this
end Go.Proofs.YtendohnkhbgfbaaDoor
namespace Go.Proofs.YtendohnkhbgfbaaDoor
open Go.RowKit

theorem ints_of_trodK {H : Type} {enc : TypeId × Value → H} {P : Program} {w : World} {base : Nat} {sp : Nat → Bool} {held : Bool} {fuel t e n : Nat} {k : IntKind} {cs : List Value} {nums : List Int} {p : List MemPlace}
  (ht : P.underlying t = some (.array n e)) (k0 : P.underlying e = some (.int k)) (ce : P.cellsOf e = 1)
  (h : DataW.trod enc P w base sp held fuel t cs = some (.agg (nums.map fun r => .lit (.int k r)), p)) :
  ∀ j, j < nums.length → cs[j]? = some (.int k (rd nums j)) := by
 obtain ⟨xs, m, rfl, hx, hlen, hn, hel⟩ := DataW.trod_array ht h
 simp only [Prod.mk.injEq, DataW.agg.injEq] at hx
 intro j hj
 have hxl : xs.length = nums.length := by have := congrArg List.length hx.1; simpa using this.symm
 have hz := hel j (by omega)
 obtain ⟨x, hxj⟩ : ∃ x, xs[j]? = some x := ⟨xs[j]'(by omega), by simp [List.getElem?_eq_getElem (show j < xs.length by omega)]⟩
 rw [hxj, ce, Nat.mul_one] at hz
 obtain ⟨r0, e0, f0', _⟩ := DataW.trod_int k0 hz
 have hx1 : x.1 = (DataW.lit (.int k (rd nums j)) : DataW H) := by
  have := congrArg (·[j]?) hx.1
  simp only [List.getElem?_map, hxj, Option.map_some, List.getElem?_eq_getElem hj] at this
  rw [rd_getElem hj]
  exact (Option.some.inj this).symm
 rw [f0'] at hx1
 simp at hx1
 subst hx1
 have g0 := congrArg (·[0]?) e0
 simp [List.getElem?_drop] at g0
 exact g0
theorem gKeys : Tryd.prog.globalNamed "inkwell/sha.keys" = some 3 := by kernel_rfl
theorem gBegin : Tryd.prog.globalNamed "inkwell/sha.begin" = some 2 := by kernel_rfl
theorem gMagic : Tryd.prog.globalNamed "inkwell/chunk.magic" = some 0 := by kernel_rfl
theorem tKeys : (Tryd.prog.globals[3]?).map (·.type) = some 174 := by kernel_rfl
theorem tBegin : (Tryd.prog.globals[2]?).map (·.type) = some 82 := by kernel_rfl
theorem tMagic : (Tryd.prog.globals[0]?).map (·.type) = some 46 := by kernel_rfl
theorem key_wv : ∀ j, j < 64 → wv (keyS j) = rd keyL j := fun j hj => by
 have h : ∀ j, j < 64 → 0 ≤ rd keyL j ∧ rd keyL j < 4294967296 := by decide
 exact wv_w32 (h j hj)
theorem first_wv : ∀ j, j < 8 → wv (firstS.at j) = rd firstL j := fun j hj => by
 have h : ∀ j, j < 8 → 0 ≤ rd firstL j ∧ rd firstL j < 4294967296 := by decide
 rcases (show j = 0 ∨ j = 1 ∨ j = 2 ∨ j = 3 ∨ j = 4 ∨ j = 5 ∨ j = 6 ∨ j = 7 by omega) with rfl | rfl | rfl | rfl | rfl | rfl | rfl | rfl <;> exact wv_w32 (h _ (by omega))
structure Tabs22 (w : World) : Prop where
 tabs : Tabs w
 ord : OrdAt w
 keys : KeysAt w
 beg : BeginAt w
 mag : MagicAt w
theorem Tabs22.below {w w' : World} (h : Tabs22 w) (hb : Below w.heap.size w w') : Tabs22 w' :=
 ⟨h.tabs.below hb, fun j hj => kept_cell hb (h.ord j hj), fun j hj => kept_cell hb (h.keys j hj), fun j hj => kept_cell hb (h.beg j hj), fun j hj => kept_cell hb (h.mag j hj)⟩
theorem tabs22_of_laid {W : World} (h : laidMetH Tryd.prog [("inkwell/syms.lengths", Rows.laid_inkwell_syms_lengths), ("inkwell/syms.distances", Rows.laid_inkwell_syms_distances), ("inkwell/sha.keys", Rows.laid_inkwell_sha_keys), ("inkwell/sha.begin", Rows.laid_inkwell_sha_begin), ("inkwell/codes.order", Rows.laid_inkwell_codes_order), ("inkwell/chunk.magic", Rows.laid_inkwell_chunk_magic)] W) : Tabs22 W := by
 rw [MakeChecks.laidMetH_plain _ _ _ (by kernel_rfl)] at h
 obtain ⟨ps, ⟨g0, t0, cs0, n0, p0, q0, hg0, ht0, hv0, hd0, ⟨g1, t1, cs1, n1, p1, q1, hg1, ht1, hv1, hd1, ⟨g2, t2, cs2, n2, p2, q2, hg2, ht2, hv2, hd2, ⟨g3, t3, cs3, n3, p3, q3, hg3, ht3, hv3, hd3, ⟨g4, t4, cs4, n4, p4, q4, hg4, ht4, hv4, hd4, ⟨g5, t5, cs5, n5, p5, q5, hg5, ht5, hv5, hd5, _, _⟩, _⟩, _⟩, _⟩, _⟩, _⟩, _, _⟩ := h
 obtain rfl := Option.some.inj (gLens.symm.trans hg0)
 obtain rfl := Option.some.inj (gDists.symm.trans hg1)
 obtain rfl := Option.some.inj (gKeys.symm.trans hg2)
 obtain rfl := Option.some.inj (gBegin.symm.trans hg3)
 obtain rfl := Option.some.inj (gOrd.symm.trans hg4)
 obtain rfl := Option.some.inj (gMagic.symm.trans hg5)
 obtain rfl := Option.some.inj (tLens.symm.trans ht0)
 obtain rfl := Option.some.inj (tDists.symm.trans ht1)
 obtain rfl := Option.some.inj (tKeys.symm.trans ht2)
 obtain rfl := Option.some.inj (tBegin.symm.trans ht3)
 obtain rfl := Option.some.inj (tOrd.symm.trans ht4)
 obtain rfl := Option.some.inj (tMagic.symm.trans ht5)
 have u0 := pairs_of_trod (rows := lens) Tryd.underlying184 Tryd.underlying183 rfl rfl Tryd.underlying3 Tryd.underlying3 (by kernel_rfl) (by kernel_rfl) (by kernel_rfl) hd0
 have u1 := pairs_of_trod (rows := dists) Tryd.underlying185 Tryd.underlying183 rfl rfl Tryd.underlying3 Tryd.underlying3 (by kernel_rfl) (by kernel_rfl) (by kernel_rfl) hd1
 have u2 := ints_of_trodK (nums := keyL) Tryd.underlying174 Tryd.underlying81 (by kernel_rfl) hd2
 have u3 := ints_of_trodK (nums := firstL) Tryd.underlying82 Tryd.underlying81 (by kernel_rfl) hd3
 have u4 := ints_of_trod (nums := ordI) Tryd.underlying151 Tryd.underlying3 (by kernel_rfl) hd4
 have u5 := ints_of_trodK (nums := magicL) Tryd.underlying46 Tryd.underlying5 (by kernel_rfl) hd5
 refine ⟨⟨fun j hj => ?_, fun j hj => ?_⟩, fun j hj => ?_, fun j hj => ?_, fun j hj => ?_, fun j hj => ?_⟩
 ·have := u0 j hj
  simp only [Array.getElem?_toList] at this
  rw [World.var?_cell hg0 hv0, World.var?_cell hg0 hv0]
  exact this
 ·have := u1 j hj
  simp only [Array.getElem?_toList] at this
  rw [World.var?_cell hg1 hv1, World.var?_cell hg1 hv1]
  exact this
 ·have := u4 j hj
  simp only [Array.getElem?_toList] at this
  rw [World.var?_cell hg4 hv4, this, rd_ordI j hj]
 ·have := u2 j hj
  simp only [Array.getElem?_toList] at this
  rw [World.var?_cell hg2 hv2, this, key_wv j hj]
 ·have := u3 j hj
  simp only [Array.getElem?_toList] at this
  rw [World.var?_cell hg3 hv3, this, first_wv j hj]
 ·have := u5 j hj
  simp only [Array.getElem?_toList] at this
  rw [World.var?_cell hg5 hv5, this]
end Go.Proofs.YtendohnkhbgfbaaDoor
namespace Go.Proofs.YtendohnkhbgfbaaDoor
open Go.RowKit

theorem isRow_byte {w : World} {a : Option Addr} {len cap : Nat} {zs : List Int} (h : IsRow .u8 w a len cap zs) : ∀ x ∈ zs.take len, 0 ≤ x ∧ x ≤ 255 := all_of_rd (fun j hj => h.u8 j (by rw [← h.rd.1]; exact hj))
theorem chunkB_byte {k : Int} {c : List Int} (hk : 0 ≤ k ∧ k ≤ 255) (hc : ∀ x ∈ c, 0 ≤ x ∧ x ≤ 255) : ∀ x ∈ chunkB k c, 0 ≤ x ∧ x ≤ 255 := by
 intro x hx
 unfold chunkB tailB at hx
 rcases List.mem_append.1 hx with h | h
 ·simp only [magicL, List.mem_cons, List.not_mem_nil, or_false] at h
  omega
 ·rcases List.mem_append.1 h with h | h
  ·exact sumB_byte _ _ x h
  ·rcases List.mem_cons.1 h with h | h
   ·subst h; exact hk
   ·rcases List.mem_append.1 h with h | h
    ·exact lebU_byte _ x h
    ·exact hc x h
theorem packK_nil : packK [] = (1, []) := packK_neg (by simp)
set_option maxHeartbeats 1000000 in set_option maxRecDepth 100000 in
theorem awake22_calls (w : World) (hT : Tabs22 w) : Calls Tryd.prog 8 #[] w fun e w' => e = .returned (.bool true) ∧ Below w.heap.size w w' := by
 have HT := Lib.hid hT
 clear hT
 go_enter Tryd.func8, Tryd.ntmps8
 go_wp2_with fail
 refine (ChPack_calls none 0 0 [] w ⟨rfl, fun h => by omega⟩ (fun x hx => by cases hx) (fun _ => ⟨rfl, rfl⟩) (by omega) (by omega) HT.out.tabs HT.out.ord).mono ?_
 rintro e w1 ⟨A1, n1, c1, rfl, HO1, hb1⟩
 rw [packK_nil] at HO1 ⊢
 have h0 : n1 = 0 := by have := HO1.out.1; simpa [ints] using this.symm
 subst h0
 have HB1 := Lib.hid hb1
 clear hb1 HO1
 go_wp2
 go_ret
 exact ⟨rfl, HB1.out.alloc HB1.out.size _⟩
end Go.Proofs.YtendohnkhbgfbaaDoor
namespace Go.Proofs.YtendohnkhbgfbaaDoor
open Go.RowKit

def CodeInv (xs : List Int) (k s : Nat) (code : Int) (last : Nat) : Prop :=
 (last = 0 ∧ code = 0 ∧ nextCode xs k s = 0) ∨ (0 < last ∧ last ≤ k ∧ 0 ≤ code ∧ (code + 1) * 2 ^ (k - last) = nextCode xs k s)
theorem CodeInv.miss {xs : List Int} {k s last : Nat} {code : Int} (h : CodeInv xs k s code last) (hs : s < xs.length) (hx : rd xs s ≠ k) : CodeInv xs k (s + 1) code last := by
 have e : nextCode xs k (s + 1) = nextCode xs k s := by unfold nextCode; rw [before_miss xs k s hs hx]
 unfold CodeInv at *
 rw [e]
 exact h
theorem CodeInv.hit {xs : List Int} {k s : Nat} (hs : s < xs.length) (hx : rd xs s = k) (hk : 0 < k) (h0 : 0 ≤ nextCode xs k s) : CodeInv xs k (s + 1) (nextCode xs k s) k := by
 have e : nextCode xs k (s + 1) = nextCode xs k s + 1 := by unfold nextCode; rw [before_hit xs k s hs hx]; omega
 refine .inr ⟨hk, Nat.le_refl _, h0, ?_⟩
 rw [e, Nat.sub_self]
 omega
theorem CodeInv.over {xs : List Int} {k last : Nat} {code : Int} (h : CodeInv xs k xs.length code last) (hk : 0 < k) (hk2 : k < 16) : CodeInv xs (k + 1) 0 code last := by
 have e := nextCode_over xs k hk hk2
 rcases h with ⟨h1, h2, h3⟩ | ⟨h1, h2, h3, h4⟩
 ·exact .inl ⟨h1, h2, by rw [e, h3]; rfl⟩
 ·refine .inr ⟨h1, by omega, h3, ?_⟩
  rw [e, ← h4, show k + 1 - last = (k - last) + 1 from by omega, Int.pow_succ, ← Int.mul_assoc, Int.mul_comm]

theorem elU64r : ElT Tryd.prog 108 49 (.int .u64 0) 1 8 := elU64
set_option maxHeartbeats 2000000 in
set_option maxRecDepth 200000 in
theorem refCodes_calls (A : Option Addr) (n cap : Nat) (xs : List Int) (w : World) (hR : Rd w .i64 A n xs) (hn : n ≤ 1000000) :
  Calls Tryd.prog 91 #[.slice A n cap] w fun e w' => ∃ v, e = .returned v ∧ w'.ownsRow w.heap.size 49 1 v n (ints .u64 (codesOf xs)) ∧ Below w.heap.size w w' := by
 have HR := Lib.hid hR
 have hlen := Lib.hid hR.1
 clear hR
 go_enter Tryd.func91, Tryd.ntmps91
 go_wp2_with (at_make; refine wpList_mk1 (base := w.heap.size) (n := n) _ rfl _ _ rfl elU64 rfl rfl rfl rfl (by omega) (Nat.le_refl _) ?_; intro w4 hown4 hb4 hsz4)
 have Hown4 := Lib.hid hown4
 have Hb4 := Lib.hid hb4
 clear hown4 hb4
 go_loopw [4, 5, 6] (fun x y i wr => ∃ (k last : Nat) (code : Int) (l : List Int), 1 ≤ k ∧ k ≤ 16 ∧ i = .int .i64 k ∧ x = .int .u64 code ∧ y = .int .i64 last ∧ Hid (CodeInv xs k 0 code last) ∧ wr.ownsRow w.heap.size 49 1 (.slice (some ⟨w.heap.size, 0, none⟩) n n) n (ints .u64 l) ∧ Hid (∀ j, j < n → rd l j = if 0 < rd xs j ∧ rd xs j < k then codeAt xs j else 0) ∧ Below w.heap.size w wr) (fun _ _ i _ => 16 - (intOf i).toNat)
 case atStart =>
  refine ⟨1, 0, 0, _, by omega, by omega, rfl, rfl, rfl, .inl ⟨rfl, rfl, nextCode_one xs⟩, Hown4.out, ?_, Hb4.out⟩
  intro j hj
  rw [if_neg (by omega), rd_getElem (by rw [List.length_replicate]; exact hj), List.getElem_replicate]
 case round =>
  obtain ⟨k, last, code, l, hk1, hk2, rfl, rfl, rfl, Hinv, hown, Hl, hbel⟩ := hrel
  have Hown := Lib.hid hown
  have Hbel := Lib.hid hbel
  clear hown hbel
  by_cases hlt : k ≤ 15
  ·obtain ⟨wo, hwo⟩ : ∃ wo : World, wo = wr := ⟨_, rfl⟩
   subst hwo
   go_wp2
   go_loopw [4, 5, 7] (fun x y i wr => ∃ (s last : Nat) (code : Int) (l : List Int), s ≤ n ∧ i = .int .i64 s ∧ x = .int .u64 code ∧ y = .int .i64 last ∧ Hid (CodeInv xs k s code last) ∧ wr.ownsRow w.heap.size 49 1 (.slice (some ⟨w.heap.size, 0, none⟩) n n) n (ints .u64 l) ∧ Hid (∀ j, j < n → rd l j = if 0 < rd xs j ∧ (rd xs j < k ∨ (rd xs j = k ∧ j < s)) then codeAt xs j else 0) ∧ Below w.heap.size w wr) (fun _ _ i _ => n - (intOf i).toNat)
   case atStart =>
    refine ⟨0, last, code, l, by omega, rfl, rfl, rfl, Hinv, Hown.out, ?_, Hbel.out⟩
    intro j hj
    rw [Hl.out j hj]
    by_cases g : 0 < rd xs j ∧ rd xs j < k
    ·rw [if_pos g, if_pos ⟨g.1, .inl g.2⟩]
    ·rw [if_neg g, if_neg (by omega)]
   case round =>
    obtain ⟨s, last, code, l, hs, rfl, rfl, rfl, Hinv, hown, Hl, hbel⟩ := hrel
    have hll : l.length = n := by have := hown.1; simpa [ints] using this
    have Hown := Lib.hid hown
    have Hbel := Lib.hid hbel
    clear hown hbel
    by_cases hlt2 : s < n
    ·obtain ⟨b, o, rfl, hcx⟩ := HR.out.2 (by omega)
     have z := kept_cell Hbel.out (hcx s hlt2)
     clear hcx
     cases hx : (rd xs s != (k : Int))
     ·have hxk : rd xs s = k := by simpa using hx
      have HX := Lib.hid hxk
      have hv := nextCode_range xs k s (by omega)
      rw [hlen.out] at hv
      have xc := Hown.out.cellAt s (by omega)
      rw [ints_get (by omega)] at xc
      have xf := Hown.out.frozenAt s
      have hnew := Lib.hid (CodeInv.hit (by rw [hlen.out]; exact hlt2) hxk (by omega) hv.1)
      have e1 : codeAt xs s = nextCode xs k s := by
       unfold codeAt
       rw [if_pos (by omega), hxk]
       rfl
      have E1 := Lib.hid e1
      have Hl3 : Hid (∀ j, j < n → rd (l.set s (nextCode xs k s)) j = if 0 < rd xs j ∧ (rd xs j < k ∨ (rd xs j = k ∧ j < s + 1)) then codeAt xs j else 0) := fun j hj => by
       rw [rd_set (by omega)]
       by_cases g2 : s = j
       ·subst g2; rw [if_pos rfl, if_pos (by omega), E1.out]
       ·rw [if_neg g2, Hl.out j hj]
        by_cases g : 0 < rd xs j ∧ (rd xs j < k ∨ (rd xs j = k ∧ j < s))
        ·rw [if_pos g, if_pos (by omega)]
        ·rw [if_neg g, if_neg (by omega)]
      rcases Hinv.out with ⟨i1, i2, i3⟩ | ⟨i1, i2, i3, i4⟩
      ·subst i1 i2
       rw [i3] at hnew Hl3
       clear hxk e1 hv i3
       go_wp2
       go_roundw
       case rel =>
        exact ⟨s + 1, k, 0, l.set s 0, by omega, by go_num, rfl, rfl, hnew, by rw [ints_set]; exact (Hown.out.stored s _).1, Hl3, Hbel.out.setCell (Nat.le_refl _) _⟩
       case measure => simp [intOf]; omega
      ·have hle : code + 1 ≤ (code + 1) * 2 ^ (k - last) := by
        have h1 : (1 : Int) ≤ 2 ^ (k - last) := by
         have : (1 : Nat) ≤ 2 ^ (k - last) := Nat.one_le_two_pow
         exact_mod_cast this
        have h2 := Int.mul_le_mul_of_nonneg_left h1 (show 0 ≤ code + 1 by omega)
        rw [Int.mul_one] at h2
        exact h2
       have ev : IntKind.u64.wrap (IntKind.u64.wrap (code + 1) * 2 ^ (k - last)) = nextCode xs k s := by
        rw [IntWalk.u64_in (code + 1) (by rw [i4] at hle; omega), i4]
        exact IntWalk.u64_in _ (by omega)
       have Ev := Lib.hid ev
       clear hxk e1 i4 hle ev
       go_wp2
       rw [Ev.out]
       go_roundw
       case rel =>
        exact ⟨s + 1, k, nextCode xs k s, l.set s (nextCode xs k s), by omega, by go_num, rfl, rfl, hnew, by rw [ints_set]; exact (Hown.out.stored s _).1, Hl3, Hbel.out.setCell (Nat.le_refl _) _⟩
       case measure => simp [intOf]; omega
     ·have hxk : rd xs s ≠ k := by simpa using hx
      have hnew := Lib.hid (CodeInv.miss Hinv.out (by rw [hlen.out]; exact hlt2) hxk)
      have Hx := Lib.hid hxk
      clear hxk
      go_wp2
      go_roundw
      case rel =>
       refine ⟨s + 1, last, code, l, by omega, by go_num, rfl, rfl, hnew, Hown.out, ?_, Hbel.out⟩
       intro j hj
       rw [Hl.out j hj]
       by_cases g2 : s = j
       ·subst g2
        have := Hx.out
        by_cases g : 0 < rd xs s ∧ (rd xs s < k ∨ (rd xs s = k ∧ s < s))
        ·rw [if_pos g, if_pos (by omega)]
        ·rw [if_neg g, if_neg (by omega)]
       ·by_cases g : 0 < rd xs j ∧ (rd xs j < k ∨ (rd xs j = k ∧ j < s))
        ·rw [if_pos g, if_pos (by omega)]
        ·rw [if_neg g, if_neg (by omega)]
      case measure => simp [intOf]; omega
    ·have hsn : s = n := by omega
     have hinv := Hinv.out
     rw [hsn, ← hlen.out] at hinv
     have hover := Lib.hid (CodeInv.over hinv (by omega) (by omega))
     clear hinv
     go_wp2
     go_roundw
     case rel =>
      refine ⟨k + 1, last, code, l, by omega, by omega, by go_num, rfl, rfl, hover, Hown.out, ?_, Hbel.out⟩
      intro j hj
      rw [Hl.out j hj]
      by_cases g : 0 < rd xs j ∧ (rd xs j < k ∨ (rd xs j = k ∧ j < s))
      ·rw [if_pos g, if_pos (by omega)]
      ·rw [if_neg g, if_neg (by omega)]
     case measure => simp [intOf]; omega
  ·have hk16 : k = 16 := by omega
   have hll : l.length = n := by have := Hown.out.1; simpa [ints] using this
   have e : l = codesOf xs := ext_rd (by rw [hll, codesOf_length, hlen.out]) (fun j hj => by
    rw [Hl.out j (by omega), rd_codesOf _ _ (by rw [hlen.out]; omega)]
    by_cases g : 0 < rd xs j ∧ rd xs j < k
    ·rw [if_pos g]
    ·rw [if_neg g]
     unfold codeAt
     rw [if_neg (by omega)])
   subst e
   clear hk16
   go_wp2
   go_ret
   exact ⟨_, rfl, Hown.out, Hbel.out⟩
end Go.Proofs.YtendohnkhbgfbaaDoor
