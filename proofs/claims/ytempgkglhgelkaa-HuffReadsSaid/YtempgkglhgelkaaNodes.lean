/-
  The walks of the methods of *nodes: Len, Less, Swap, Push, Pop.
-/
import Derived.Test.YtempgkglhgelkaaFr
import Derived.Test.YtempgkglhgelkaaHeapP
import Derived.IntWalk
import Derived.BigQuiet
import Derived.BigRegion
import Derived.Deep.RegionWith
import Derived.Deep.RegionHeld3
namespace Go.Proofs.Ytempgkglhgelkaa
open Go.RowKit

/-- The nodes: n of them, four numbers each; and who waits. -/
structure NodesAt (w : World) (h : Nat) (va vw : Value) (n : Nat) (flat wait : List Int) : Prop where
  at' : w.heap[h]? = some (.cells #[va, vw] 74 (0, 0))
  all : w.ownsRow 0 76 4 va n (ints .i64 flat)
  wait : w.ownsRow 0 3 1 vw wait.length (ints .i64 wait)
theorem NodesAt.lt {w : World} {h n : Nat} {va vw : Value} {flat wait : List Int} (H : NodesAt w h va vw n flat wait) : h < w.heap.size := (Array.getElem?_eq_some_iff.1 H.at').1
theorem NodesAt.c0 {w : World} {h n : Nat} {va vw : Value} {flat wait : List Int} (H : NodesAt w h va vw n flat wait) : w.cell? ⟨h, 0, none⟩ = some va := by rw [cell_of_row w h 0 _ _ (0, 0) H.at']; rfl
theorem NodesAt.c1 {w : World} {h n : Nat} {va vw : Value} {flat wait : List Int} (H : NodesAt w h va vw n flat wait) : w.cell? ⟨h, 1, none⟩ = some vw := by rw [cell_of_row w h 1 _ _ (0, 0) H.at']; rfl
theorem NodesAt.frozen {w : World} {h n : Nat} {va vw : Value} {flat wait : List Int} (H : NodesAt w h va vw n flat wait) (j : Nat) : w.frozen? ⟨h, j, none⟩ = false := frozen_of_row w h j _ _ H.at'
theorem NodesAt.aw {w : World} {h n : Nat} {va vw : Value} {flat wait : List Int} (H : NodesAt w h va vw n flat wait) : Apart va.ownBlock vw.ownBlock := own_apart2 (by decide) H.all H.wait
theorem NodesAt.ah {w : World} {h n : Nat} {va vw : Value} {flat wait : List Int} (H : NodesAt w h va vw n flat wait) : Apart va.ownBlock (some h) := own_apart H.at' (by decide) H.all
theorem NodesAt.wh {w : World} {h n : Nat} {va vw : Value} {flat wait : List Int} (H : NodesAt w h va vw n flat wait) : Apart vw.ownBlock (some h) := own_apart H.at' (by decide) H.wait
theorem NodesAt.fr {w w' : World} {h n : Nat} {va vw : Value} {flat wait : List Int} {S : List (Option Nat)} (H : NodesAt w h va vw n flat wait) (hf : Fr w w' S) (hS : ∀ o ∈ S, Apart va.ownBlock o ∧ Apart vw.ownBlock o ∧ o ≠ some h) : NodesAt w' h va vw n flat wait :=
  ⟨(hf.block h H.lt (fun o ho => (hS o ho).2.2)).trans H.at', own_fr H.all hf (fun o ho => (hS o ho).1), own_fr H.wait hf (fun o ho => (hS o ho).2.1)⟩
theorem NodesAt.keep {w w' : World} {h n : Nat} {va vw : Value} {flat wait : List Int} (H : NodesAt w h va vw n flat wait) (hb : Below w.heap.size w w') : NodesAt w' h va vw n flat wait :=
  H.fr (Fr.ofBelow hb []) (fun o ho => by simp at ho)
/-- Is node x less than node y: by weight, then by order. -/
def ltF (flat : List Int) (x y : Int) : Bool := decide (rd flat (x.toNat * 4) < rd flat (y.toNat * 4)) || (rd flat (x.toNat * 4) == rd flat (y.toNat * 4) && decide (rd flat (x.toNat * 4 + 1) < rd flat (y.toNat * 4 + 1)))

set_option maxHeartbeats 1000000 in
theorem Len_calls (h n : Nat) (va vw : Value) (flat wait : List Int) (w : World) (H : NodesAt w h va vw n flat wait) :
    Calls Try.prog 39 #[.pointer (some ⟨h, 0, none⟩)] w fun e w' => e = .returned (.int .i64 wait.length) ∧ w = w' := by
  have c1 := H.c1
  obtain ⟨A, c, rfl⟩ := own_slice H.wait
  clear H
  go_enter Try.func39, Try.ntmps39
  go_wp2
  go_ret
  exact ⟨rfl, rfl⟩
set_option maxHeartbeats 1000000 in
theorem Less_calls (h n i k : Nat) (va vw : Value) (flat wait : List Int) (w : World) (H : NodesAt w h va vw n flat wait) (hi : i < wait.length) (hk : k < wait.length) (hx : ∀ j, j < wait.length → 0 ≤ rd wait j ∧ rd wait j < n) (hn : n ≤ 1000000) (hm : wait.length ≤ 1000000) :
    Calls Try.prog 62 #[.pointer (some ⟨h, 0, none⟩), .int .i64 i, .int .i64 k] w fun e w' => e = .returned (.bool (ltF flat (rd wait i) (rd wait k))) ∧ Below w.heap.size w w' := by
  have c0 := H.c0
  have c1 := H.c1
  have hfl : flat.length = n * 4 := by have := H.all.1; rwa [ints_length] at this
  obtain ⟨x, hx1⟩ : ∃ x : Nat, rd wait i = x := ⟨(rd wait i).toNat, by have := hx i hi; omega⟩
  obtain ⟨y, hy1⟩ : ∃ y : Nat, rd wait k = y := ⟨(rd wait k).toNat, by have := hx k hk; omega⟩
  have hxn : x < n := by have := hx i hi; omega
  have hyn : y < n := by have := hx k hk; omega
  obtain ⟨gw, cw, rfl, _, _, hcw, hcell, _⟩ := own_form H.wait (by omega)
  obtain ⟨ga, ca, rfl, _, _, hca, hacell, _⟩ := own_form H.all (by omega)
  have wi := hcell i _ (ints_get hi)
  have wk := hcell k _ (ints_get hk)
  rw [hx1] at wi
  rw [hy1] at wk
  have x0 := hacell (x * 4) _ (ints_get (by omega))
  have x1 := hacell (x * 4 + 1) _ (ints_get (by omega))
  have x2 := hacell (x * 4 + 2) _ (ints_get (by omega))
  have x3 := hacell (x * 4 + 3) _ (ints_get (by omega))
  have y0 := hacell (y * 4) _ (ints_get (by omega))
  have y1 := hacell (y * 4 + 1) _ (ints_get (by omega))
  have y2 := hacell (y * 4 + 2) _ (ints_get (by omega))
  have y3 := hacell (y * 4 + 3) _ (ints_get (by omega))
  have hres : ltF flat (rd wait i) (rd wait k) = (decide (rd flat (x * 4) < rd flat (y * 4)) || (rd flat (x * 4) == rd flat (y * 4) && decide (rd flat (x * 4 + 1) < rd flat (y * 4 + 1)))) := by
    rw [hx1, hy1]
    rfl
  rw [hres]
  clear hres
  obtain ⟨wx, e1⟩ : ∃ v, rd flat (x * 4) = v := ⟨_, rfl⟩
  obtain ⟨wy, e2⟩ : ∃ v, rd flat (y * 4) = v := ⟨_, rfl⟩
  obtain ⟨ox, e3⟩ : ∃ v, rd flat (x * 4 + 1) = v := ⟨_, rfl⟩
  obtain ⟨oy, e4⟩ : ∃ v, rd flat (y * 4 + 1) = v := ⟨_, rfl⟩
  rw [e1] at x0
  rw [e2] at y0
  rw [e3] at x1
  rw [e4] at y1
  rw [e1, e2, e3, e4]
  have L0 := Later.refl w
  have C0 := Later.cell c0
  have C1 := Later.cell c1
  have Wi := Later.cell wi
  have Wk := Later.cell wk
  have X0 := Later.cell x0
  have X1 := Later.cell x1
  have X2 := Later.cell x2
  have X3 := Later.cell x3
  have Y0 := Later.cell y0
  have Y1 := Later.cell y1
  have Y2 := Later.cell y2
  have Y3 := Later.cell y3
  clear H hcell hacell hx hx1 hy1 hfl e1 e2 e3 e4 c0 c1 wi wk x0 x1 x2 x3 y0 y1 y2 y3
  go_enter Try.func62, Try.ntmps62
  go_wp2
  go_region_held3 (fun W => Later w W ∧ W.cell? ⟨h, 0, none⟩ = some (.slice (some ⟨ga, 0, none⟩) n ca) ∧ W.cell? ⟨h, 1, none⟩ = some (.slice (some ⟨gw, 0, none⟩) wait.length cw) ∧ W.cell? ⟨gw, i, none⟩ = some (.int .i64 x) ∧ W.cell? ⟨gw, k, none⟩ = some (.int .i64 y) ∧
    W.cell? ⟨ga, x * 4, none⟩ = some (.int .i64 wx) ∧ W.cell? ⟨ga, x * 4 + 1, none⟩ = some (.int .i64 ox) ∧ W.cell? ⟨ga, x * 4 + 2, none⟩ = some (.int .i64 (rd flat (x * 4 + 2))) ∧ W.cell? ⟨ga, x * 4 + 3, none⟩ = some (.int .i64 (rd flat (x * 4 + 3))) ∧
    W.cell? ⟨ga, y * 4, none⟩ = some (.int .i64 wy) ∧ W.cell? ⟨ga, y * 4 + 1, none⟩ = some (.int .i64 oy) ∧ W.cell? ⟨ga, y * 4 + 2, none⟩ = some (.int .i64 (rd flat (y * 4 + 2))) ∧ W.cell? ⟨ga, y * 4 + 3, none⟩ = some (.int .i64 (rd flat (y * 4 + 3))))
    ((refine (fun L => ⟨L, C0 _ L, C1 _ L, Wi _ L, Wk _ L, X0 _ L, X1 _ L, X2 _ L, X3 _ L, Y0 _ L, Y1 _ L, Y2 _ L, Y3 _ L⟩) ?_; repeat (first | exact L0 | refine Later.drew ?_ | refine Later.new _ ?_ | refine Later.made _ _ (by first | exact Nat.le_refl _ | (simp; done) | (simp; omega)) ?_))) (fail)
  all_goals
    rename_i hh
    clear hh C0 C1 Wi Wk X0 X1 X2 X3 Y0 Y1 Y2 Y3 L0
    go_wp2
    all_goals
      go_ret
      refine ⟨?_, ((Below.refl _ _).alloc (Nat.le_refl _) _).alloc (by simp) _ |>.drew⟩
      first
      | rfl
      | (have g : wx = wy := by assumption
         subst g
         simp)
      | (have g : ¬ wx = wy := by assumption
         simp [g])
end Go.Proofs.Ytempgkglhgelkaa
