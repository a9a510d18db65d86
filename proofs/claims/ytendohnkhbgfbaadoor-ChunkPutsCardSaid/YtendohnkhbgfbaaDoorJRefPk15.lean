/-
  Texts joined into one file: CodesW, Nodes, NodesB, HeapW.
-/
import Derived.Test.YtendohnkhbgfbaaDoorJRefPk11
import Derived.IntWalk
import Derived.Test.YtendohnkhbgfbaaDoorJRefPk1
import Derived.Test.YtendohnkhbgfbaaDoorJRefPk12
import Derived.BigQuiet
import Derived.BigRegion
import Derived.Deep.RegionWith
import Derived.Deep.RegionHeld3
import Derived.Deep.AppendLies
import Derived.Deep.RegionLaw
import Derived.Test.YtendohnkhbgfbaaDoorJRefPk9
namespace Go.Proofs.YtendohnkhbgfbaaDoor
open Go.RowKit

set_option maxHeartbeats 1000000 in
theorem run_calls (A : Option Addr) (n cap i : Nat) (xs : List Int) (w : World) (hR : Rd w .i64 A n xs) (hn : n ≤ 17592186044416) (hi : i < n) :
  Calls Tryd.prog 118 #[.slice A n cap, .int .i64 i] w fun e w' => e = .returned (.int .i64 (runLen xs i)) ∧ Below w.heap.size w w' := by
 obtain ⟨hlen, hR⟩ := hR
 obtain ⟨b, o, rfl, hc⟩ := hR (by omega)
 have Hc := Lib.hid hc
 have Hlen := Lib.hid hlen
 clear hR hc hlen
 go_enter Tryd.func118, Tryd.ntmps118
 go_wp2
 go_loopw [5] (fun k wr => ∃ m : Nat, 1 ≤ m ∧ i + m ≤ n ∧ k = .int .i64 m ∧ Hid (∀ j, j < m → rd xs (i + j) = rd xs i) ∧ Below w.heap.size w wr) (fun k _ => n - (intOf k).toNat)
 case atStart => exact ⟨1, by omega, by omega, rfl, fun j hj => by rw [show j = 0 from by omega]; rfl, Below.refl _ _⟩
 case round =>
  obtain ⟨m, hm, him, rfl, Hall, hbel⟩ := hrel
  have Hbel := Lib.hid hbel
  have z2 := kept_cell hbel (Hc.out i hi)
  clear hbel
  have s1 : IntKind.i64.wrap ((i : Int) + m) = i + m := IntWalk.i64_in _ (by omega)
  have s2 : ((i : Int) + m).toNat = i + m := by omega
  have s3 : 0 ≤ (i : Int) + m := by omega
  by_cases hlt : i + m < n
  ·have z1 := kept_cell Hbel.out (Hc.out (i + m) hlt)
   have s4 : decide ((i : Int) + m < n) = true := by simp; omega
   have s5 : (i : Int) + m < n := by omega
   cases he : (rd xs (i + m) == rd xs i)
   ·go_wp2
    go_quiet (fail)
    go_wp2
    go_ret
    refine ⟨?_, Hbel.out.trans ⟨rfl, rfl, rfl, Nat.le_refl _, fun _ _ => rfl⟩⟩
    rw [runLen_of m (by rw [Hlen.out]; omega) Hall.out (.inr (by simpa using he))]
    rfl
   ·go_wp2
    go_quiet (fail)
    go_wp2
    go_roundw
    case rel =>
     refine ⟨m + 1, by omega, by omega, by go_num, ?_, Hbel.out.trans ⟨rfl, rfl, rfl, Nat.le_refl _, fun _ _ => rfl⟩⟩
     intro j hj
     rcases Nat.lt_or_ge j m with h | h
     ·exact Hall.out j h
     ·rw [show j = m from by omega]; simpa using he
    case measure => simp [intOf]; omega
  ·have s4 : decide ((i : Int) + m < n) = false := by simp; omega
   go_wp2
   go_quiet (fail)
   go_wp2
   go_ret
   refine ⟨?_, Hbel.out.trans ⟨rfl, rfl, rfl, Nat.le_refl _, fun _ _ => rfl⟩⟩
   rw [runLen_of m (by rw [Hlen.out]; omega) Hall.out (.inl (by rw [Hlen.out]; omega))]
   rfl

theorem elItem : ElT Tryd.prog 148 150 (.agg #[.int .i64 0, .int .i64 0, .int .u64 0]) 3 24 := ⟨Tryd.underlying148, by kernel_rfl, rfl, by decide, by decide⟩

set_option maxHeartbeats 4000000 in
set_option maxRecDepth 200000 in
theorem Press_calls (A : Option Addr) (n cap : Nat) (xs : List Int) (w : World) (hR : Rd w .i64 A n xs) (hn : n ≤ 1000000) :
  Calls Tryd.prog 89 #[.slice A n cap] w fun e w' => ∃ v, e = .returned v ∧ w'.ownsRow w.heap.size 150 3 v (items xs).length (itemCells (items xs)) ∧ Below w.heap.size w w' := by
 have Hlen := Lib.hid hR.1
 have HR := Lib.hid hR
 clear hR
 go_enter Tryd.func89, Tryd.ntmps89
 go_wp2
 go_loopw [3, 4] (fun v i wr => ∃ (k : Nat) (pre : List Item), k ≤ n ∧ i = .int .i64 k ∧ pre.length ≤ k ∧ wr.ownsRow w.heap.size 150 3 v pre.length (itemCells pre) ∧ Hid (items xs = pre ++ itemsFrom xs xs.length k) ∧ Below w.heap.size w wr) (fun _ i _ => n - (intOf i).toNat)
 case atStart => exact ⟨0, [], by omega, rfl, by simp, World.ownsRow_nil _ _ _ _, rfl, Below.refl _ _⟩
 case round =>
  obtain ⟨k, pre, hk, rfl, hpre, hown, Hit, hbel⟩ := hrel
  have Hbel := Lib.hid hbel
  have Hown := Lib.hid hown
  have hsz := hbel.size
  clear hbel hown
  by_cases hlt : k < n
  ·have hrp := runLen_pos (xs := xs) (i := k) (by rw [Hlen.out]; exact hlt)
   rw [Hlen.out] at hrp
   go_wp2_with fail
   refine (run_calls A n cap k xs _ (HR.out.below (Hbel.out.mono (Nat.le_refl _))) (by omega) hlt).mono ?_
   rintro e w1 ⟨rfl, hb1⟩
   have Hown1 := Lib.hid (own_below Hown.out hb1)
   have Hbel1 := Lib.hid (below_seq Hbel.out (Nat.le_refl _) hb1)
   have hsz1 := Hbel1.out.size
   obtain ⟨b, o, rfl, hc⟩ := HR.out.2 (by omega)
   have z1 := kept_new (kept_cell Hbel1.out (hc k hlt))
   have Z0 := Lib.hid (fun h : 0 < k => kept_new (kept_cell Hbel1.out (hc (k - 1) (by omega))))
   clear hc Hown Hbel hb1
   by_cases h0 : rd xs k = 0
   ·have t1 : (rd xs k == 0) = true := by simpa using h0
    have H0 := Lib.hid h0
    clear h0
    by_cases h1 : 11 ≤ runLen xs k
    ·by_cases h2 : 138 < runLen xs k
     ·go_wp2_with (first | (at_builtin; refine wpList_app2 rfl _ _ rfl elItem (Hown1.out.alloc _) rfl rfl (by simp) rfl rfl (by omega) (by simp; omega) ?_; intro v' w' hown' hbel' _))
      go_roundw
      case rel =>
       refine ⟨k + 138, pre ++ [⟨18, 7, 127⟩], by omega, by go_num, by simp; omega, ?_, ?_, (below_new Hbel1.out (Nat.le_refl _) _).trans hbel'⟩
       ·rw [List.length_append, itemCells_append]; exact hown'
       ·exact items_next (by rw [Hlen.out]; exact hlt) Hit.out (by rw [itemAt_18 H0.out h1, Nat.min_eq_right (by omega)]; rfl)
      case measure => simp [intOf]; omega
     ·go_wp2_with (first | (at_builtin; refine wpList_app2 rfl _ _ rfl elItem (Hown1.out.alloc _) rfl rfl (by simp) rfl rfl (by omega) (by simp; omega) ?_; intro v' w' hown' hbel' _))
      go_roundw
      case rel =>
       refine ⟨k + runLen xs k, pre ++ [⟨18, 7, (runLen xs k : Nat) - 11⟩], by omega, by go_num, by simp; omega, ?_, ?_, (below_new Hbel1.out (Nat.le_refl _) _).trans hbel'⟩
       ·rw [List.length_append, itemCells_append]; exact hown'
       ·exact items_next (by rw [Hlen.out]; exact hlt) Hit.out (by rw [itemAt_18 H0.out h1, Nat.min_eq_left (by omega)])
      case measure => simp [intOf]; omega
    ·by_cases h2 : 3 ≤ runLen xs k
     ·go_wp2_with (first | (at_builtin; refine wpList_app2 rfl _ _ rfl elItem (Hown1.out.alloc _) rfl rfl (by simp) rfl rfl (by omega) (by simp; omega) ?_; intro v' w' hown' hbel' _))
      go_roundw
      case rel =>
       refine ⟨k + runLen xs k, pre ++ [⟨17, 3, (runLen xs k : Nat) - 3⟩], by omega, by go_num, by simp; omega, ?_, ?_, (below_new Hbel1.out (Nat.le_refl _) _).trans hbel'⟩
       ·rw [List.length_append, itemCells_append]; exact hown'
       ·exact items_next (by rw [Hlen.out]; exact hlt) Hit.out (itemAt_17 H0.out h2 (by omega))
      case measure => simp [intOf]; omega
     ·have t2 : (rd xs k != 0) = false := by simpa using H0.out
      go_wp2_with (first | (at_builtin; refine wpList_app2 rfl _ _ rfl elItem (Hown1.out.alloc _) rfl rfl (by simp) rfl rfl (by omega) (by simp; omega) ?_; intro v' w' hown' hbel' _))
      go_quiet (fail)
      go_wp2_with (first | (at_builtin; refine wpList_app2 rfl _ _ rfl elItem (own_below Hown1.out (drawn3 w1 _ _ _ _ _)) rfl rfl (by simp) rfl rfl (by omega) (by simp; omega) ?_; intro v' w' hown' hbel' _))
      go_roundw
      case rel =>
       refine ⟨k + 1, pre ++ [⟨rd xs k, 0, 0⟩], by omega, by go_num, by simp; omega, ?_, ?_, (below_seq Hbel1.out (Nat.le_refl _) (drawn3 w1 _ _ _ _ _)).trans hbel'⟩
       ·rw [List.length_append, itemCells_append]; exact hown'
       ·exact items_next (by rw [Hlen.out]; exact hlt) Hit.out (itemAt_one (.inl ⟨H0.out, by omega⟩))
      case measure => simp [intOf]; omega
   ·have t1 : (rd xs k == 0) = false := by simpa using h0
    have t2 : (rd xs k != 0) = true := by simpa using h0
    have H0 := Lib.hid h0
    clear h0
    by_cases hk0 : 0 < k
    ·have z0 := Z0.out hk0
     have s1 : IntKind.i64.wrap ((k : Int) - 1) = k - 1 := IntWalk.i64_in _ (by omega)
     have s2 : ((k : Int) - 1).toNat = k - 1 := by omega
     have s3 : 0 ≤ (k : Int) - 1 := by omega
     have s4 : (k : Int) - 1 < n := by omega
     have t3 : decide (0 < (k : Int)) = true := by simp; omega
     cases t4 : (rd xs (k - 1) == rd xs k)
     ·go_wp2_with (first | (at_builtin; refine wpList_app2 rfl _ _ rfl elItem (Hown1.out.alloc _) rfl rfl (by simp) rfl rfl (by omega) (by simp; omega) ?_; intro v' w' hown' hbel' _))
      go_quiet (fail)
      go_wp2_with (first | (at_builtin; refine wpList_app2 rfl _ _ rfl elItem (own_below Hown1.out (drawn3 w1 _ _ _ _ _)) rfl rfl (by simp) rfl rfl (by omega) (by simp; omega) ?_; intro v' w' hown' hbel' _))
      go_roundw
      case rel =>
       refine ⟨k + 1, pre ++ [⟨rd xs k, 0, 0⟩], by omega, by go_num, by simp; omega, ?_, ?_, (below_seq Hbel1.out (Nat.le_refl _) (drawn3 w1 _ _ _ _ _)).trans hbel'⟩
       ·rw [List.length_append, itemCells_append]; exact hown'
       ·exact items_next (by rw [Hlen.out]; exact hlt) Hit.out (itemAt_one (.inr ⟨H0.out, .inr (.inl (by simpa using t4))⟩))
      case measure => simp [intOf]; omega
     ·by_cases h3 : 3 ≤ runLen xs k
      ·have t5 : decide (3 ≤ (runLen xs k : Int)) = true := by simp; omega
       by_cases h6 : 6 < runLen xs k
       ·go_wp2_with (first | (at_builtin; refine wpList_app2 rfl _ _ rfl elItem (Hown1.out.alloc _) rfl rfl (by simp) rfl rfl (by omega) (by simp; omega) ?_; intro v' w' hown' hbel' _))
        go_quiet (fail)
        go_wp2_with (first | (at_builtin; refine wpList_app2 rfl _ _ rfl elItem (own_below Hown1.out (drawn3 w1 _ _ _ _ _)) rfl rfl (by simp) rfl rfl (by omega) (by simp; omega) ?_; intro v' w' hown' hbel' _))
        go_roundw
        case rel =>
         refine ⟨k + 6, pre ++ [⟨16, 2, 3⟩], by omega, by go_num, by simp; omega, ?_, ?_, (below_seq Hbel1.out (Nat.le_refl _) (drawn3 w1 _ _ _ _ _)).trans hbel'⟩
         ·rw [List.length_append, itemCells_append]; exact hown'
         ·exact items_next (by rw [Hlen.out]; exact hlt) Hit.out (by rw [itemAt_16 H0.out hk0 (by simpa using t4) h3, Nat.min_eq_right (by omega)]; rfl)
        case measure => simp [intOf]; omega
       ·go_wp2_with (first | (at_builtin; refine wpList_app2 rfl _ _ rfl elItem (Hown1.out.alloc _) rfl rfl (by simp) rfl rfl (by omega) (by simp; omega) ?_; intro v' w' hown' hbel' _))
        go_quiet (fail)
        go_wp2_with (first | (at_builtin; refine wpList_app2 rfl _ _ rfl elItem (own_below Hown1.out (drawn3 w1 _ _ _ _ _)) rfl rfl (by simp) rfl rfl (by omega) (by simp; omega) ?_; intro v' w' hown' hbel' _))
        go_roundw
        case rel =>
         refine ⟨k + runLen xs k, pre ++ [⟨16, 2, (runLen xs k : Nat) - 3⟩], by omega, by go_num, by simp; omega, ?_, ?_, (below_seq Hbel1.out (Nat.le_refl _) (drawn3 w1 _ _ _ _ _)).trans hbel'⟩
         ·rw [List.length_append, itemCells_append]; exact hown'
         ·exact items_next (by rw [Hlen.out]; exact hlt) Hit.out (by rw [itemAt_16 H0.out hk0 (by simpa using t4) h3, Nat.min_eq_left (by omega)])
        case measure => simp [intOf]; omega
      ·have t5 : decide (3 ≤ (runLen xs k : Int)) = false := by simp; omega
       go_wp2_with (first | (at_builtin; refine wpList_app2 rfl _ _ rfl elItem (Hown1.out.alloc _) rfl rfl (by simp) rfl rfl (by omega) (by simp; omega) ?_; intro v' w' hown' hbel' _))
       go_quiet (fail)
       go_wp2_with (first | (at_builtin; refine wpList_app2 rfl _ _ rfl elItem (own_below Hown1.out (drawn3 w1 _ _ _ _ _)) rfl rfl (by simp) rfl rfl (by omega) (by simp; omega) ?_; intro v' w' hown' hbel' _))
       go_roundw
       case rel =>
        refine ⟨k + 1, pre ++ [⟨rd xs k, 0, 0⟩], by omega, by go_num, by simp; omega, ?_, ?_, (below_seq Hbel1.out (Nat.le_refl _) (drawn3 w1 _ _ _ _ _)).trans hbel'⟩
        ·rw [List.length_append, itemCells_append]; exact hown'
        ·exact items_next (by rw [Hlen.out]; exact hlt) Hit.out (itemAt_one (.inr ⟨H0.out, .inr (.inr (by omega))⟩))
       case measure => simp [intOf]; omega
    ·have t3 : decide (0 < (k : Int)) = false := by simp; omega
     go_wp2_with (first | (at_builtin; refine wpList_app2 rfl _ _ rfl elItem (Hown1.out.alloc _) rfl rfl (by simp) rfl rfl (by omega) (by simp; omega) ?_; intro v' w' hown' hbel' _))
     go_quiet (fail)
     go_wp2_with (first | (at_builtin; refine wpList_app2 rfl _ _ rfl elItem (own_below Hown1.out (drawn3 w1 _ _ _ _ _)) rfl rfl (by simp) rfl rfl (by omega) (by simp; omega) ?_; intro v' w' hown' hbel' _))
     go_roundw
     case rel =>
      refine ⟨k + 1, pre ++ [⟨rd xs k, 0, 0⟩], by omega, by go_num, by simp; omega, ?_, ?_, (below_seq Hbel1.out (Nat.le_refl _) (drawn3 w1 _ _ _ _ _)).trans hbel'⟩
      ·rw [List.length_append, itemCells_append]; exact hown'
      ·exact items_next (by rw [Hlen.out]; exact hlt) Hit.out (itemAt_one (.inr ⟨H0.out, .inl (by omega)⟩))
     case measure => simp [intOf]; omega
  ·obtain rfl : k = n := by omega
   go_wp2
   go_ret
   have e : items xs = pre := by rw [Hit.out, itemsFrom_end xs _ _ (by rw [Hlen.out]; exact Nat.le_refl _), List.append_nil]
   rw [e]
   exact ⟨_, rfl, Hown.out, Hbel.out⟩
end Go.Proofs.YtendohnkhbgfbaaDoor
namespace Go.Proofs.YtendohnkhbgfbaaDoor
open Go.RowKit

structure NodesAt (w : World) (h : Nat) (va vw : Value) (n : Nat) (flat wait : List Int) : Prop where
  at' : w.heap[h]? = some (.cells #[va, vw] 192 (0, 0))
  all : w.ownsRow 0 194 4 va n (ints .i64 flat)
  wait : w.ownsRow 0 3 1 vw wait.length (ints .i64 wait)
theorem NodesAt.lt {w : World} {h n : Nat} {va vw : Value} {flat wait : List Int} (H : NodesAt w h va vw n flat wait) : h < w.heap.size := (Array.getElem?_eq_some_iff.1 H.at').1
theorem NodesAt.c0 {w : World} {h n : Nat} {va vw : Value} {flat wait : List Int} (H : NodesAt w h va vw n flat wait) : w.cell? ⟨h, 0, none⟩ = some va := by rw [cell_of_row w h 0 _ _ (0, 0) H.at']; rfl
theorem NodesAt.c1 {w : World} {h n : Nat} {va vw : Value} {flat wait : List Int} (H : NodesAt w h va vw n flat wait) : w.cell? ⟨h, 1, none⟩ = some vw := by rw [cell_of_row w h 1 _ _ (0, 0) H.at']; rfl
theorem NodesAt.frozen {w : World} {h n : Nat} {va vw : Value} {flat wait : List Int} (H : NodesAt w h va vw n flat wait) (j : Nat) : w.frozen? ⟨h, j, none⟩ = false := frozen_of_row w h j _ _ H.at'
theorem NodesAt.aw {w : World} {h n : Nat} {va vw : Value} {flat wait : List Int} (H : NodesAt w h va vw n flat wait) : Apart va.ownBlock vw.ownBlock := own_apart2 (by decide) H.all H.wait
theorem NodesAt.ah {w : World} {h n : Nat} {va vw : Value} {flat wait : List Int} (H : NodesAt w h va vw n flat wait) : Apart va.ownBlock (some h) := own_apart H.at' (by decide) H.all
theorem NodesAt.wh {w : World} {h n : Nat} {va vw : Value} {flat wait : List Int} (H : NodesAt w h va vw n flat wait) : Apart vw.ownBlock (some h) := own_apart H.at' (by decide) H.wait
theorem NodesAt.fr {w w' : World} {h n : Nat} {va vw : Value} {flat wait : List Int} {S : List (Option Nat)} (H : NodesAt w h va vw n flat wait) (hf : Fr w w' S) (hS : ∀ o ∈ S, Apart va.ownBlock o ∧ Apart vw.ownBlock o ∧ o ≠ some h) : NodesAt w' h va vw n flat wait :=
  ⟨(hf.block h H.lt (fun o ho => (hS o ho).2.2)).trans H.at', own_fr H.all hf (fun o ho => (hS o ho).1), own_fr H.wait hf (fun o ho => (hS o ho).2.1)⟩
theorem NodesAt.keep {w w' : World} {h n : Nat} {va vw : Value} {flat wait : List Int} (H : NodesAt w h va vw n flat wait) (hb : Below w.heap.size w w') : NodesAt w' h va vw n flat wait :=
  H.fr (Fr.ofBelow hb []) (fun o ho => by simp at ho)
def ltF (flat : List Int) (x y : Int) : Bool := decide (rd flat (x.toNat * 4) < rd flat (y.toNat * 4)) || (rd flat (x.toNat * 4) == rd flat (y.toNat * 4) && decide (rd flat (x.toNat * 4 + 1) < rd flat (y.toNat * 4 + 1)))

set_option maxHeartbeats 1000000 in
theorem Len_calls (h n : Nat) (va vw : Value) (flat wait : List Int) (w : World) (H : NodesAt w h va vw n flat wait) :
    Calls Tryd.prog 114 #[.pointer (some ⟨h, 0, none⟩)] w fun e w' => e = .returned (.int .i64 wait.length) ∧ w = w' := by
  have c1 := H.c1
  obtain ⟨A, c, rfl⟩ := own_slice H.wait
  clear H
  go_enter Tryd.func114, Tryd.ntmps114
  go_wp2
  go_ret
  exact ⟨rfl, rfl⟩
set_option maxHeartbeats 1000000 in
theorem Less_calls (h n i k : Nat) (va vw : Value) (flat wait : List Int) (w : World) (H : NodesAt w h va vw n flat wait) (hi : i < wait.length) (hk : k < wait.length) (hx : ∀ j, j < wait.length → 0 ≤ rd wait j ∧ rd wait j < n) (hn : n ≤ 1000000) (hm : wait.length ≤ 1000000) :
    Calls Tryd.prog 146 #[.pointer (some ⟨h, 0, none⟩), .int .i64 i, .int .i64 k] w fun e w' => e = .returned (.bool (ltF flat (rd wait i) (rd wait k))) ∧ Below w.heap.size w w' := by
  have c0 := H.c0
  have c1 := H.c1
  have hfl : flat.length = n * 4 := by have := H.all.1; rwa [ints_length] at this
  obtain ⟨x, hx1⟩ : ∃ x : Nat, rd wait i = x := ⟨(rd wait i).toNat, by have := hx i hi; omega⟩
  obtain ⟨y, hy1⟩ : ∃ y : Nat, rd wait k = y := ⟨(rd wait k).toNat, by have := hx k hk; omega⟩
  have hxn : x < n := by have := hx i hi; omega
  have hyn : y < n := by have := hx k hk; omega
  obtain ⟨gw, cw, rfl, _, _, hcw, hcell, _⟩ := own_form H.wait (by omega)
  obtain ⟨ga, ca, rfl, _, _, hca, hacell, _⟩ := own_form H.all (by omega)
  have wi := hcell i _ (ints_get hi)
  have wk := hcell k _ (ints_get hk)
  rw [hx1] at wi
  rw [hy1] at wk
  have x0 := hacell (x * 4) _ (ints_get (by omega))
  have x1 := hacell (x * 4 + 1) _ (ints_get (by omega))
  have x2 := hacell (x * 4 + 2) _ (ints_get (by omega))
  have x3 := hacell (x * 4 + 3) _ (ints_get (by omega))
  have y0 := hacell (y * 4) _ (ints_get (by omega))
  have y1 := hacell (y * 4 + 1) _ (ints_get (by omega))
  have y2 := hacell (y * 4 + 2) _ (ints_get (by omega))
  have y3 := hacell (y * 4 + 3) _ (ints_get (by omega))
  have hres : ltF flat (rd wait i) (rd wait k) = (decide (rd flat (x * 4) < rd flat (y * 4)) || (rd flat (x * 4) == rd flat (y * 4) && decide (rd flat (x * 4 + 1) < rd flat (y * 4 + 1)))) := by
    rw [hx1, hy1]
    rfl
  rw [hres]
  clear hres
  obtain ⟨wx, e1⟩ : ∃ v, rd flat (x * 4) = v := ⟨_, rfl⟩
  obtain ⟨wy, e2⟩ : ∃ v, rd flat (y * 4) = v := ⟨_, rfl⟩
  obtain ⟨ox, e3⟩ : ∃ v, rd flat (x * 4 + 1) = v := ⟨_, rfl⟩
  obtain ⟨oy, e4⟩ : ∃ v, rd flat (y * 4 + 1) = v := ⟨_, rfl⟩
  rw [e1] at x0
  rw [e2] at y0
  rw [e3] at x1
  rw [e4] at y1
  rw [e1, e2, e3, e4]
  have L0 := Later.refl w
  have C0 := Later.cell c0
  have C1 := Later.cell c1
  have Wi := Later.cell wi
  have Wk := Later.cell wk
  have X0 := Later.cell x0
  have X1 := Later.cell x1
  have X2 := Later.cell x2
  have X3 := Later.cell x3
  have Y0 := Later.cell y0
  have Y1 := Later.cell y1
  have Y2 := Later.cell y2
  have Y3 := Later.cell y3
  clear H hcell hacell hx hx1 hy1 hfl e1 e2 e3 e4 c0 c1 wi wk x0 x1 x2 x3 y0 y1 y2 y3
  go_enter Tryd.func146, Tryd.ntmps146
  go_wp2
  go_region_held3 (fun W => Later w W ∧ W.cell? ⟨h, 0, none⟩ = some (.slice (some ⟨ga, 0, none⟩) n ca) ∧ W.cell? ⟨h, 1, none⟩ = some (.slice (some ⟨gw, 0, none⟩) wait.length cw) ∧ W.cell? ⟨gw, i, none⟩ = some (.int .i64 x) ∧ W.cell? ⟨gw, k, none⟩ = some (.int .i64 y) ∧
    W.cell? ⟨ga, x * 4, none⟩ = some (.int .i64 wx) ∧ W.cell? ⟨ga, x * 4 + 1, none⟩ = some (.int .i64 ox) ∧ W.cell? ⟨ga, x * 4 + 2, none⟩ = some (.int .i64 (rd flat (x * 4 + 2))) ∧ W.cell? ⟨ga, x * 4 + 3, none⟩ = some (.int .i64 (rd flat (x * 4 + 3))) ∧
    W.cell? ⟨ga, y * 4, none⟩ = some (.int .i64 wy) ∧ W.cell? ⟨ga, y * 4 + 1, none⟩ = some (.int .i64 oy) ∧ W.cell? ⟨ga, y * 4 + 2, none⟩ = some (.int .i64 (rd flat (y * 4 + 2))) ∧ W.cell? ⟨ga, y * 4 + 3, none⟩ = some (.int .i64 (rd flat (y * 4 + 3))))
    ((refine (fun L => ⟨L, C0 _ L, C1 _ L, Wi _ L, Wk _ L, X0 _ L, X1 _ L, X2 _ L, X3 _ L, Y0 _ L, Y1 _ L, Y2 _ L, Y3 _ L⟩) ?_; repeat (first | exact L0 | refine Later.drew ?_ | refine Later.new _ ?_ | refine Later.made _ _ (by first | exact Nat.le_refl _ | (simp; done) | (simp; omega)) ?_))) (fail)
  all_goals
    rename_i hh
    clear hh C0 C1 Wi Wk X0 X1 X2 X3 Y0 Y1 Y2 Y3 L0
    go_wp2
    all_goals
      go_ret
      refine ⟨?_, ((Below.refl _ _).alloc (Nat.le_refl _) _).alloc (by simp) _ |>.drew⟩
      first
      | rfl
      | (have g : wx = wy := by assumption
         subst g
         simp)
      | (have g : ¬ wx = wy := by assumption
         simp [g])
end Go.Proofs.YtendohnkhbgfbaaDoor
namespace Go.Proofs.YtendohnkhbgfbaaDoor
open Go.RowKit

theorem NodesAt.put {w : World} {h n g c : Nat} {va : Value} {flat wait : List Int} (H : NodesAt w h va (.slice (some ⟨g, 0, none⟩) wait.length c) n flat wait) (j : Nat) (v : Int) :
  NodesAt (w.setCell ⟨g, j, none⟩ (.int .i64 v)) h va (.slice (some ⟨g, 0, none⟩) wait.length c) n flat (wait.set j v) := by
 have hne : h ≠ g := fun e => H.wh g rfl (by rw [e])
 refine ⟨(heap_setCell_other w ⟨g, j, none⟩ h _ hne).trans H.at', own_fr H.all ((Fr.refl w [some g]).set ⟨g, j, none⟩ _ (.inl (by simp))) (fun o ho => ?_), ?_⟩
 ·simp at ho
  subst ho
  exact H.aw
 ·rw [List.length_set, ints_set]
  exact own_store H.wait j _
theorem kept_new_f {w : World} {a : Addr} (h : w.frozen? a = false) (hlt : a.block < w.heap.size) (o : Obj) : (w.alloc o).frozen? a = false := (World.frozen?_of_block (Below.heap_alloc _ _ _ hlt)).trans h
set_option maxHeartbeats 1000000 in
theorem Swap_calls (h n i k : Nat) (va vw : Value) (flat wait : List Int) (w : World) (H : NodesAt w h va vw n flat wait) (hi : i < wait.length) (hk : k < wait.length) :
  Calls Tryd.prog 149 #[.pointer (some ⟨h, 0, none⟩), .int .i64 i, .int .i64 k] w fun e w' => e = .returned (.tuple #[]) ∧ NodesAt w' h va vw n flat (swp wait i k) ∧ Fr w w' [vw.ownBlock] ∧ w'.heap.size = w.heap.size := by
 have c1 := H.c1
 obtain ⟨gw, cw, rfl, _, _, hcw, hcell, hfz⟩ := own_form H.wait (by omega)
 have wi := hcell i _ (ints_get hi)
 have wk := hcell k _ (ints_get hk)
 have fi := hfz i
 have fk := hfz k
 have hne := H.wh
 have hgh : ¬ gw = h := fun e => hne gw rfl (by rw [e])
 have hgh2 : ¬ h = gw := fun e => hgh e.symm
 have hset : ∀ v, ∃ u, (w.setCell ⟨gw, i, none⟩ v).cell? ⟨gw, k, none⟩ = some u := by
  intro v
  have ho := own_store H.wait i v
  have := ho.cellAt k (by omega)
  exact ⟨_, this.trans (List.getElem?_eq_getElem (by rw [List.length_set, ints_length]; exact hk))⟩
 obtain ⟨u, hu⟩ := hset (.int .i64 (rd wait k))
 have HH := Lib.hid H
 clear H hcell hfz hne hset
 go_enter Tryd.func149, Tryd.ntmps149
 go_region
 go_wp2
 go_end0
 have h1 := (HH.out.put i (rd wait k))
 have h2 := NodesAt.put (wait := wait.set i (rd wait k)) (by rw [List.length_set]; exact h1) k (rd wait i)
 refine ⟨rfl, ?_, ((Fr.refl w _).set _ _ (.inl (by simp [Value.ownBlock]))).set _ _ (.inl (by simp [Value.ownBlock])) |>.drew, by simp⟩
 rw [List.length_set] at h2
 exact h2.keep (Below.refl _ _).drew
set_option maxHeartbeats 1000000 in
theorem NPop_calls (h n : Nat) (va vw : Value) (flat wait : List Int) (w : World) (H : NodesAt w h va vw n flat wait) (hm : 0 < wait.length) :
  Calls Tryd.prog 147 #[.pointer (some ⟨h, 0, none⟩)] w fun e w' => e = .returned (.iface 3 (.int .i64 (rd wait (wait.length - 1)))) ∧ ∃ vw', NodesAt w' h va vw' n flat (wait.take (wait.length - 1)) ∧ vw'.ownBlock = vw.ownBlock ∧ Fr w w' [some h] ∧ w'.heap.size = w.heap.size := by
 have c1 := H.c1
 have f1 := H.frozen 1
 obtain ⟨gw, cw, rfl, _, _, hcw, hcell, hfz⟩ := own_form H.wait (by omega)
 have wl := hcell (wait.length - 1) _ (ints_get (by omega))
 obtain ⟨m, hm2⟩ : ∃ m, wait.length = m + 1 := ⟨wait.length - 1, by omega⟩
 rw [hm2] at c1 wl
 rw [hm2, Nat.add_sub_cancel]
 rw [Nat.add_sub_cancel] at wl
 have hbig : m + 1 ≤ maxLen := by
  rcases H.wait.2 with ⟨h1, _⟩ | ⟨g, cap, cur, h1, _, _, h3, h4, _⟩
  ·cases h1
  ·rw [hm2] at h3; omega
 unfold maxLen at hbig
 have Hm2 := Lib.hid hm2
 have HH := Lib.hid H
 clear H hcell hfz hm2
 have hcm : m ≤ cw := by have := Hm2.out; omega
 go_enter Tryd.func147, Tryd.ntmps147
 go_wp2
 go_ret
 refine ⟨rfl, .slice (some ⟨gw, 0, none⟩) m cw, ⟨?_, ?_, ?_⟩, rfl, (Fr.refl w _).set _ _ (.inl (by simp)), by simp⟩
 ·exact heap_setCell_same w h 1 _ _ _ HH.out.at'
 ·refine own_fr HH.out.all ((Fr.refl w [some h]).set ⟨h, 1, none⟩ _ (.inl (by simp))) (fun o ho => ?_)
  simp at ho
  subst ho
  exact HH.out.ah
 ·have h1 := own_front HH.out.wait m (by have := Hm2.out; omega)
  rw [show (wait.take m).length = m from by rw [List.length_take]; have := Hm2.out; omega]
  rw [show (ints .i64 wait).take m = ints .i64 (wait.take m) from by simp [ints, List.map_take]] at h1
  refine own_fr h1 ((Fr.refl w [some h]).set ⟨h, 1, none⟩ _ (.inl (by simp))) (fun o ho => ?_)
  simp at ho
  subst ho
  exact HH.out.wh
set_option maxHeartbeats 1000000 in
theorem NPush_calls (h n : Nat) (va vw : Value) (flat wait : List Int) (x : Int) (w : World) (H : NodesAt w h va vw n flat wait) (hm : wait.length ≤ 1000000) :
  Calls Tryd.prog 148 #[.pointer (some ⟨h, 0, none⟩), .iface 3 (.int .i64 x)] w fun e w' => e = .returned (.tuple #[]) ∧ ∃ vw', NodesAt w' h va vw' n flat (wait ++ [x]) ∧ (vw'.ownBlock = vw.ownBlock ∨ ∀ k, vw'.ownBlock = some k → w.heap.size ≤ k) ∧ Fr w w' [some h, vw.ownBlock] := by
 have c1 := H.c1
 have f1 := H.frozen 1
 have HH := Lib.hid H
 obtain ⟨A, c, rfl⟩ := own_slice H.wait
 have ta : ∀ W : World, Sem.run Tryd.prog (Instr.typeAssert (.iface 3 (.int .i64 x)) 20 3 false) W = .ok (.int .i64 x) W := fun W => by kernel_rfl
 obtain ⟨i0, hi0, hz0, hz1, hz2⟩ := info_parts elIntN.info
 have hh1 : h < w.heap.size := H.lt
 have hne := H.wh
 have Hne := Lib.hid hne
 clear H hne
 go_enter Tryd.func148, Tryd.ntmps148
 go_region_law
  ((refine step_append_lies _ (by rfl) _ _ _ (by rfl) 0 3 i0 (.int .i64 0) 1 8 elIntN.und hi0 hz0 hz1 hz2 rfl (by omega) (.slice A wait.length c) wait.length _ (by rfl) (HH.out.wait.alloc _) ⟨w.heap.size, 0, none⟩ 1 1 [.int .i64 x] (by rfl) rfl (news_at _ _ _) (by simp [Value.oneCell']) (by omega) (by unfold maxLen; omega) (by omega) (Nat.zero_le _) (w.heap.size + 1) (by simp) ?_; intro g cap w1 hown1 hgrow hat hlt; have q1 := hgrow.cell (kept_new c1 _) (fun e => Hne.out h e.symm rfl); have q2 := (hgrow.frozen_far ⟨h, 1, none⟩ (by simp; omega) (fun e => Hne.out h e.symm rfl)).trans (kept_new_f f1 hh1 _)))
 all_goals
  go_end0
  have hW1 : w1.heap[h]? = some (.cells #[va, .slice A wait.length c] 192 (0, 0)) := (hgrow.block h (by simp; omega) (fun e => Hne.out h e.symm rfl)).trans ((Below.heap_alloc _ _ _ hh1).trans HH.out.at')
  have FA : Fr w w1 [(Value.slice A wait.length c).ownBlock] := ((Fr.refl w _).alloc _ |>.drew).trans (Fr.ofGrown hgrow) (fun o ho => .inl ho)
  have FB : Fr w (w1.setCell ⟨h, 1, none⟩ (Value.slice (some ⟨g, 0, none⟩) (wait.length + 1) cap)) [some h, (Value.slice A wait.length c).ownBlock] := (FA.mono (fun o ho => by simp at ho ⊢; exact .inr ho)).set _ _ (.inl (by simp))
  refine ⟨rfl, .slice (some ⟨g, 0, none⟩) (wait.length + 1) cap, ⟨heap_setCell_same w1 h 1 _ _ _ hW1, ?_, ?_⟩, ?_, FB⟩
  ·refine own_fr HH.out.all FB (fun o ho => ?_)
   simp only [List.mem_cons, List.not_mem_nil, or_false] at ho
   rcases ho with rfl | rfl
   ·exact HH.out.ah
   ·exact HH.out.aw
  ·have h9 := own_fr hown1 ((Fr.refl w1 [some h]).set ⟨h, 1, none⟩ (Value.slice (some ⟨g, 0, none⟩) (wait.length + 1) cap) (.inl (by simp))) (fun o ho => by
    simp only [List.mem_cons, List.not_mem_nil, or_false] at ho
    subst ho
    exact own_apart hW1 (by decide) hown1)
   rw [List.length_append, ints_append]
   exact h9
  ·rcases hat with h8 | h8
   ·exact .inl h8.symm
   ·refine .inr (fun k hk => ?_)
    simp [Value.ownBlock] at hk
    omega
end Go.Proofs.YtendohnkhbgfbaaDoor
namespace Go.Proofs.YtendohnkhbgfbaaDoor
open Go.RowKit

theorem ltF_ord (flat : List Int) : Ord (ltF flat) := by
 refine ⟨fun x y z h k => ?_, fun x y h => ?_⟩
 ·simp only [ltF, Bool.or_eq_false_iff, Bool.and_eq_false_iff, decide_eq_false_iff_not, beq_eq_false_iff_ne] at *
  omega
 ·simp only [ltF, Bool.or_eq_false_iff, Bool.and_eq_false_iff, decide_eq_false_iff_not, beq_eq_false_iff_ne, Bool.or_eq_true, Bool.and_eq_true, decide_eq_true_eq, beq_iff_eq] at *
  omega
abbrev nv (h : Nat) : Value := .iface 189 (.pointer (some ⟨h, 0, none⟩))
theorem m_less (k : Nat) (a : Addr) (w : World) : (method (k + 1) 189 (.pointer (some a)) "Less").run Tryd.prog w = .ok (146, .pointer (some a)) w := by kernel_rfl
theorem m_swap (k : Nat) (a : Addr) (w : World) : (method (k + 1) 189 (.pointer (some a)) "Swap").run Tryd.prog w = .ok (149, .pointer (some a)) w := by kernel_rfl
theorem m_len (k : Nat) (a : Addr) (w : World) : (method (k + 1) 189 (.pointer (some a)) "Len").run Tryd.prog w = .ok (114, .pointer (some a)) w := by kernel_rfl
theorem m_push (k : Nat) (a : Addr) (w : World) : (method (k + 1) 189 (.pointer (some a)) "Push").run Tryd.prog w = .ok (148, .pointer (some a)) w := by kernel_rfl
theorem m_pop (k : Nat) (a : Addr) (w : World) : (method (k + 1) 189 (.pointer (some a)) "Pop").run Tryd.prog w = .ok (147, .pointer (some a)) w := by kernel_rfl
theorem Less_at (h n i k : Nat) (va vw : Value) (flat wait : List Int) (xi xk : Int) (w : World) (H : NodesAt w h va vw n flat wait) (hi : i < wait.length) (hk : k < wait.length) (hx : ∀ j, j < wait.length → 0 ≤ rd wait j ∧ rd wait j < n) (hn : n ≤ 1000000) (hm : wait.length ≤ 1000000) (ei : xi = i) (ek : xk = k) :
  Calls Tryd.prog 146 #[.pointer (some ⟨h, 0, none⟩), .int .i64 xi, .int .i64 xk] w fun e w' => e = .returned (.bool (ltF flat (rd wait i) (rd wait k))) ∧ Below w.heap.size w w' := by
 subst ei ek
 exact Less_calls h n i k va vw flat wait w H hi hk hx hn hm
theorem Swap_at (h n i k : Nat) (va vw : Value) (flat wait : List Int) (xi xk : Int) (w : World) (H : NodesAt w h va vw n flat wait) (hi : i < wait.length) (hk : k < wait.length) (ei : xi = i) (ek : xk = k) :
  Calls Tryd.prog 149 #[.pointer (some ⟨h, 0, none⟩), .int .i64 xi, .int .i64 xk] w fun e w' => e = .returned (.tuple #[]) ∧ NodesAt w' h va vw n flat (swp wait i k) ∧ Fr w w' [vw.ownBlock] ∧ w'.heap.size = w.heap.size := by
 subst ei ek
 exact Swap_calls h n i k va vw flat wait w H hi hk
theorem swp_range {l : List Int} {i k m : Nat} {n : Int} (hi : i < l.length) (hk : k < l.length) (hx : ∀ j, j < m → 0 ≤ rd l j ∧ rd l j < n) (hi2 : i < m := by omega) (hk2 : k < m := by omega) : ∀ j, j < m → 0 ≤ rd (swp l i k) j ∧ rd (swp l i k) j < n := by
 intro j hj
 rw [rd_swp hi hk]
 split
 ·exact hx i hi2
 ·split
  ·exact hx k hk2
  ·exact hx j hj
def SomeBool (e : Ending) : Prop := ∃ b, e = .returned (.bool b)
theorem Fr.sub {w w1 w2 : World} {S T : List (Option Nat)} (h : Fr w w1 S) (k : Fr w1 w2 T) (hT : ∀ o ∈ T, o ∈ S) : Fr w w2 S := h.trans k (fun o ho => .inl (hT o ho))
set_option maxHeartbeats 1000000 in
theorem down_calls (h n i m : Nat) (va vw : Value) (flat wait : List Int) (w : World) (H : NodesAt w h va vw n flat wait) (hm : m ≤ wait.length) (hi : i ≤ m) (hx : ∀ j, j < wait.length → 0 ≤ rd wait j ∧ rd wait j < n) (hn : n ≤ 1000000) (hl : wait.length ≤ 1000000) (f : Nat) (hf : m ≤ i + f) :
  Calls Tryd.prog 127 #[nv h, .int .i64 i, .int .i64 m] w fun e w' => SomeBool e ∧ NodesAt w' h va vw n flat (downM (ltF flat) f wait i m) ∧ Fr w w' [vw.ownBlock] := by
 have HH := Lib.hid H
 clear H
 obtain ⟨R, hR⟩ : ∃ R, downM (ltF flat) f wait i m = R := ⟨_, rfl⟩
 rw [hR]
 have HR := Lib.hid hR
 clear hR
 have ml := m_less
 have ms := m_swap
 go_enter Tryd.func127, Tryd.ntmps127
 go_wp2
 go_loopw [7, 9] (fun x _ wr => ∃ (i : Nat) (f' : Nat) (l : List Int), i ≤ m ∧ m ≤ i + f' ∧ x = .int .i64 i ∧ NodesAt wr h va vw n flat l ∧ l.length = wait.length ∧ Hid (∀ j, j < wait.length → 0 ≤ rd l j ∧ rd l j < n) ∧ Hid (downM (ltF flat) f' l i m = R) ∧ Hid (Fr w wr [vw.ownBlock])) (fun x _ _ => m - (intOf x).toNat)
 case atStart => exact ⟨i, f, wait, hi, hf, rfl, HH.out, rfl, hx, HR.out, Fr.refl _ _⟩
 case round =>
  obtain ⟨i', f', l, hi2, hf2, rfl, hN, hll, Hx, Hd, Hf⟩ := hrel
  have HN := Lib.hid hN
  have Hll := Lib.hid hll
  clear hN hll hx
  by_cases hend : m ≤ 2 * i' + 1
  ·have hR : R = l := by
    rw [← Hd.out]
    cases f' with
    | zero => rfl
    | succ f' => unfold downM; rw [if_pos hend]
   have HR2 := Lib.hid hR
   clear hR
   go_wp2
   go_ret
   refine ⟨⟨_, rfl⟩, ?_, Hf.out⟩
   rw [HR2.out]
   exact HN.out
  ·obtain ⟨f2, hf3⟩ : ∃ f2, f' = f2 + 1 := ⟨f' - 1, by omega⟩
   by_cases hj2 : 2 * i' + 2 < m
   ·go_wp2_with fail
    refine (Less_at h n (2 * i' + 2) (2 * i' + 1) va vw flat l _ _ _ HN.out (by rw [Hll.out]; omega) (by rw [Hll.out]; omega) (by rw [Hll.out]; exact Hx.out) hn (by rw [Hll.out]; exact hl) (by omega) (by omega)).mono ?_
    rintro e w1 ⟨rfl, hb1⟩
    have HN1 := Lib.hid (HN.out.keep hb1)
    have Hf1 := Lib.hid (Hf.out.sub (Fr.ofBelow hb1 []) (fun o ho => by simp at ho))
    clear hb1 HN Hf
    cases hb1 : ltF flat (rd l (2 * i' + 2)) (rd l (2 * i' + 1))
    ·have Hb1 := Lib.hid hb1
     clear hb1
     go_wp2_with fail
     have Hch : Hid (childOf (ltF flat) l i' m = 2 * i' + 1) := by show childOf (ltF flat) l i' m = 2 * i' + 1; unfold childOf; rw [if_neg (by rw [Hb1.out]; simp)]
     refine (Less_at h n (2 * i' + 1) i' va vw flat l _ _ _ HN1.out (by rw [Hll.out]; omega) (by rw [Hll.out]; omega) (by rw [Hll.out]; exact Hx.out) hn (by rw [Hll.out]; exact hl) (by omega) (by omega)).mono ?_
     rintro e w2 ⟨rfl, hb2⟩
     have HN2 := Lib.hid (HN1.out.keep hb2)
     have Hf2 := Lib.hid (Hf1.out.sub (Fr.ofBelow hb2 []) (fun o ho => by simp at ho))
     have Hd2 : Hid (downM (ltF flat) (f2 + 1) l i' m = R) := by rw [← hf3]; exact Hd.out
     clear hb2 HN1 Hf1
     cases hb2 : ltF flat (rd l (2 * i' + 1)) (rd l i')
     ·have hR : R = l := by
       rw [← Hd2.out]
       unfold downM
       rw [if_neg (by omega), Hch.out, hb2, if_neg (by decide)]
      have HR2 := Lib.hid hR
      clear hb2 hR
      go_wp2
      go_ret
      refine ⟨⟨_, rfl⟩, ?_, Hf2.out⟩
      rw [HR2.out]
      exact HN2.out
     ·have Hn : Hid (downM (ltF flat) f2 (swp l i' (2 * i' + 1)) (2 * i' + 1) m = R) := by
       show downM (ltF flat) f2 (swp l i' (2 * i' + 1)) (2 * i' + 1) m = R
       rw [← Hd2.out]
       conv => rhs; unfold downM
       rw [if_neg (by omega), Hch.out, hb2, if_pos rfl]
      clear hb2
      go_wp2_with fail
      refine (Swap_at h n i' (2 * i' + 1) va vw flat l _ _ _ HN2.out (by rw [Hll.out]; omega) (by rw [Hll.out]; omega) (by omega) (by omega)).mono ?_
      rintro e w3 ⟨rfl, hN3, hf3', _⟩
      have HN3 := Lib.hid hN3
      have Hf3 := Lib.hid (Hf2.out.sub hf3' (fun o ho => ho))
      clear hN3 hf3'
      go_wp2
      go_roundw
      case rel => exact ⟨2 * i' + 1, f2, swp l i' (2 * i' + 1), by omega, by omega, by go_num, HN3.out, by rw [swp_length]; exact Hll.out, swp_range (by rw [Hll.out]; omega) (by rw [Hll.out]; omega) Hx.out, Hn.out, Hf3.out⟩
      case measure => simp [intOf]; omega
    ·have Hb1 := Lib.hid hb1
     clear hb1
     go_wp2_with fail
     have Hch : Hid (childOf (ltF flat) l i' m = 2 * i' + 2) := by show childOf (ltF flat) l i' m = 2 * i' + 2; unfold childOf; rw [if_pos ⟨hj2, Hb1.out⟩]
     refine (Less_at h n (2 * i' + 2) i' va vw flat l _ _ _ HN1.out (by rw [Hll.out]; omega) (by rw [Hll.out]; omega) (by rw [Hll.out]; exact Hx.out) hn (by rw [Hll.out]; exact hl) (by omega) (by omega)).mono ?_
     rintro e w2 ⟨rfl, hb2⟩
     have HN2 := Lib.hid (HN1.out.keep hb2)
     have Hf2 := Lib.hid (Hf1.out.sub (Fr.ofBelow hb2 []) (fun o ho => by simp at ho))
     have Hd2 : Hid (downM (ltF flat) (f2 + 1) l i' m = R) := by rw [← hf3]; exact Hd.out
     clear hb2 HN1 Hf1
     cases hb2 : ltF flat (rd l (2 * i' + 2)) (rd l i')
     ·have hR : R = l := by
       rw [← Hd2.out]
       unfold downM
       rw [if_neg (by omega), Hch.out, hb2, if_neg (by decide)]
      have HR2 := Lib.hid hR
      clear hb2 hR
      go_wp2
      go_ret
      refine ⟨⟨_, rfl⟩, ?_, Hf2.out⟩
      rw [HR2.out]
      exact HN2.out
     ·have Hn : Hid (downM (ltF flat) f2 (swp l i' (2 * i' + 2)) (2 * i' + 2) m = R) := by
       show downM (ltF flat) f2 (swp l i' (2 * i' + 2)) (2 * i' + 2) m = R
       rw [← Hd2.out]
       conv => rhs; unfold downM
       rw [if_neg (by omega), Hch.out, hb2, if_pos rfl]
      clear hb2
      go_wp2_with fail
      refine (Swap_at h n i' (2 * i' + 2) va vw flat l _ _ _ HN2.out (by rw [Hll.out]; omega) (by rw [Hll.out]; omega) (by omega) (by omega)).mono ?_
      rintro e w3 ⟨rfl, hN3, hf3', _⟩
      have HN3 := Lib.hid hN3
      have Hf3 := Lib.hid (Hf2.out.sub hf3' (fun o ho => ho))
      clear hN3 hf3'
      go_wp2
      go_roundw
      case rel => exact ⟨2 * i' + 2, f2, swp l i' (2 * i' + 2), by omega, by omega, by go_num, HN3.out, by rw [swp_length]; exact Hll.out, swp_range (by rw [Hll.out]; omega) (by rw [Hll.out]; omega) Hx.out, Hn.out, Hf3.out⟩
      case measure => simp [intOf]; omega
   ·have HN1 := Lib.hid HN.out
    have Hf1 := Lib.hid Hf.out
    clear HN Hf
    go_wp2_with fail
    have Hch : Hid (childOf (ltF flat) l i' m = 2 * i' + 1) := by show childOf (ltF flat) l i' m = 2 * i' + 1; unfold childOf; rw [if_neg (fun h => hj2 h.1)]
    refine (Less_at h n (2 * i' + 1) i' va vw flat l _ _ _ HN1.out (by rw [Hll.out]; omega) (by rw [Hll.out]; omega) (by rw [Hll.out]; exact Hx.out) hn (by rw [Hll.out]; exact hl) (by omega) (by omega)).mono ?_
    rintro e w2 ⟨rfl, hb2⟩
    have HN2 := Lib.hid (HN1.out.keep hb2)
    have Hf2 := Lib.hid (Hf1.out.sub (Fr.ofBelow hb2 []) (fun o ho => by simp at ho))
    have Hd2 : Hid (downM (ltF flat) (f2 + 1) l i' m = R) := by rw [← hf3]; exact Hd.out
    clear hb2 HN1 Hf1
    cases hb2 : ltF flat (rd l (2 * i' + 1)) (rd l i')
    ·have hR : R = l := by
      rw [← Hd2.out]
      unfold downM
      rw [if_neg (by omega), Hch.out, hb2, if_neg (by decide)]
     have HR2 := Lib.hid hR
     clear hb2 hR
     go_wp2
     go_ret
     refine ⟨⟨_, rfl⟩, ?_, Hf2.out⟩
     rw [HR2.out]
     exact HN2.out
    ·have Hn : Hid (downM (ltF flat) f2 (swp l i' (2 * i' + 1)) (2 * i' + 1) m = R) := by
      show downM (ltF flat) f2 (swp l i' (2 * i' + 1)) (2 * i' + 1) m = R
      rw [← Hd2.out]
      conv => rhs; unfold downM
      rw [if_neg (by omega), Hch.out, hb2, if_pos rfl]
     clear hb2
     go_wp2_with fail
     refine (Swap_at h n i' (2 * i' + 1) va vw flat l _ _ _ HN2.out (by rw [Hll.out]; omega) (by rw [Hll.out]; omega) (by omega) (by omega)).mono ?_
     rintro e w3 ⟨rfl, hN3, hf3', _⟩
     have HN3 := Lib.hid hN3
     have Hf3 := Lib.hid (Hf2.out.sub hf3' (fun o ho => ho))
     clear hN3 hf3'
     go_wp2
     go_roundw
     case rel => exact ⟨2 * i' + 1, f2, swp l i' (2 * i' + 1), by omega, by omega, by go_num, HN3.out, by rw [swp_length]; exact Hll.out, swp_range (by rw [Hll.out]; omega) (by rw [Hll.out]; omega) Hx.out, Hn.out, Hf3.out⟩
     case measure => simp [intOf]; omega
set_option maxHeartbeats 1000000 in
theorem up_calls (h n j : Nat) (va vw : Value) (flat wait : List Int) (w : World) (H : NodesAt w h va vw n flat wait) (hj : j < wait.length) (hx : ∀ j, j < wait.length → 0 ≤ rd wait j ∧ rd wait j < n) (hn : n ≤ 1000000) (hl : wait.length ≤ 1000000) (f : Nat) (hf : j < f) :
  Calls Tryd.prog 128 #[nv h, .int .i64 j] w fun e w' => e = .returned (.tuple #[]) ∧ NodesAt w' h va vw n flat (upM (ltF flat) f wait j) ∧ Fr w w' [vw.ownBlock] := by
 have HH := Lib.hid H
 clear H
 obtain ⟨R, hR⟩ : ∃ R, upM (ltF flat) f wait j = R := ⟨_, rfl⟩
 rw [hR]
 have HR := Lib.hid hR
 clear hR
 have ml := m_less
 have ms := m_swap
 go_enter Tryd.func128, Tryd.ntmps128
 go_wp2
 go_loopw [1] (fun x wr => ∃ (j : Nat) (f' : Nat) (l : List Int), j < wait.length ∧ j < f' ∧ x = .int .i64 j ∧ NodesAt wr h va vw n flat l ∧ l.length = wait.length ∧ Hid (∀ j, j < wait.length → 0 ≤ rd l j ∧ rd l j < n) ∧ Hid (upM (ltF flat) f' l j = R) ∧ Hid (Fr w wr [vw.ownBlock])) (fun x _ => (intOf x).toNat)
 case atStart => exact ⟨j, f, wait, hj, hf, rfl, HH.out, rfl, hx, HR.out, Fr.refl _ _⟩
 case round =>
  obtain ⟨j', f', l, hj2, hf2, rfl, hN, hll, Hx, Hd, Hf⟩ := hrel
  have HN := Lib.hid hN
  have Hll := Lib.hid hll
  clear hN hll hx
  obtain ⟨f2, hf3⟩ : ∃ f2, f' = f2 + 1 := ⟨f' - 1, by omega⟩
  by_cases h0 : j' = 0
  ·have hR : R = l := by
    rw [← Hd.out, hf3]
    unfold upM
    rw [if_pos (by omega)]
   have HR2 := Lib.hid hR
   clear hR
   subst h0
   go_wp2
   go_end0
   refine ⟨rfl, ?_, Hf.out⟩
   rw [HR2.out]
   exact HN.out
  ·obtain ⟨p, hp⟩ : ∃ p, p = (j' - 1) / 2 := ⟨_, rfl⟩
   have s1 : ((j' : Int) - 1) / 2 = (p : Int) := by omega
   have s2 : (0 : Int) ≤ (j' : Int) - 1 := by omega
   have s3 : ¬ (p : Int) = (j' : Int) := by omega
   have s4 : ((p : Int) == (j' : Int)) = false := by simpa using s3
   have s5 : ¬ p = j' := by omega
   have Hp := Lib.hid hp
   have hpj : p < j' := by omega
   clear hp
   go_wp2_with fail
   refine (Less_at h n j' p va vw flat l _ _ _ HN.out (by rw [Hll.out]; omega) (by rw [Hll.out]; omega) (by rw [Hll.out]; exact Hx.out) hn (by rw [Hll.out]; exact hl) (by omega) (by omega)).mono ?_
   rintro e w2 ⟨rfl, hb2⟩
   have HN2 := Lib.hid (HN.out.keep hb2)
   have Hf2 := Lib.hid (Hf.out.sub (Fr.ofBelow hb2 []) (fun o ho => by simp at ho))
   have Hd2 : Hid (upM (ltF flat) (f2 + 1) l j' = R) := by rw [← hf3]; exact Hd.out
   clear hb2 HN Hf
   cases hb2 : ltF flat (rd l j') (rd l p)
   ·have hR : R = l := by
     rw [← Hd2.out]
     unfold upM
     rw [← Hp.out, if_neg s5, hb2, if_neg (by decide)]
    have HR2 := Lib.hid hR
    clear hb2 hR
    go_wp2
    go_end0
    refine ⟨rfl, ?_, Hf2.out⟩
    rw [HR2.out]
    exact HN2.out
   ·have Hn : Hid (upM (ltF flat) f2 (swp l p j') p = R) := by
     show upM (ltF flat) f2 (swp l p j') p = R
     rw [← Hd2.out]
     conv => rhs; unfold upM
     rw [← Hp.out, if_neg s5, hb2, if_pos rfl]
    clear hb2
    go_wp2_with fail
    refine (Swap_at h n p j' va vw flat l _ _ _ HN2.out (by rw [Hll.out]; omega) (by rw [Hll.out]; omega) (by omega) (by omega)).mono ?_
    rintro e w3 ⟨rfl, hN3, hf3', _⟩
    have HN3 := Lib.hid hN3
    have Hf3 := Lib.hid (Hf2.out.sub hf3' (fun o ho => ho))
    clear hN3 hf3'
    go_wp2
    go_roundw
    case rel => exact ⟨p, f2, swp l p j', by omega, by omega, rfl, HN3.out, by rw [swp_length]; exact Hll.out, swp_range (by rw [Hll.out]; omega) (by rw [Hll.out]; omega) Hx.out, Hn.out, Hf3.out⟩
    case measure => simp [intOf]; omega
set_option maxHeartbeats 1000000 in
theorem Push_calls (h n : Nat) (x : Int) (va vw : Value) (flat wait : List Int) (w : World) (H : NodesAt w h va vw n flat wait) (hx : ∀ j, j < wait.length → 0 ≤ rd wait j ∧ rd wait j < n) (h0 : 0 ≤ x) (hxn : x < n) (hn : n ≤ 1000000) (hl : wait.length < 1000000) :
  Calls Tryd.prog 116 #[nv h, .iface 3 (.int .i64 x)] w fun e w' => e = .returned (.tuple #[]) ∧ ∃ vw', NodesAt w' h va vw' n flat (pushM (ltF flat) wait x) ∧ (vw'.ownBlock = vw.ownBlock ∨ ∀ k, vw'.ownBlock = some k → w.heap.size ≤ k) ∧ Fr w w' [some h, vw.ownBlock] := by
 have HH := Lib.hid H
 have Hx := Lib.hid hx
 clear H hx
 have m1 := m_push
 have m2 := m_len
 go_enter Tryd.func116, Tryd.ntmps116
 go_wp2_with fail
 refine (NPush_calls h n va vw flat wait x _ HH.out (by omega)).mono ?_
 rintro e w1 ⟨rfl, vw', hN, hat, hf⟩
 have HN := Lib.hid hN
 have Hat := Lib.hid hat
 have Hf := Lib.hid hf
 clear hN hat hf
 go_wp2_with fail
 refine (Len_calls h n va vw' flat _ _ HN.out).mono ?_
 rintro e w2 ⟨rfl, rfl⟩
 have hlen : (wait ++ [x]).length = wait.length + 1 := by simp
 rw [hlen]
 clear hlen
 go_wp2_with fail
 refine (up_calls h n wait.length va vw' flat _ _ HN.out (by simp) (fun j hj => ?_) hn (by simp; omega) (wait.length + 1) (by omega)).mono ?_
 ·rcases Nat.lt_or_ge j wait.length with h1 | h1
  ·rw [rd_append_left h1]; exact Hx.out j h1
  ·have : j = wait.length := by simp at hj; omega
   subst this
   rw [show rd (wait ++ [x]) wait.length = x from by simp [rd]]
   exact ⟨h0, hxn⟩
 rintro e w3 ⟨rfl, hN3, hf3⟩
 have HN3 := Lib.hid hN3
 have hf4 := Hf.out.trans hf3 (fun o ho => by
  simp at ho
  subst ho
  rcases Hat.out with h1 | h1
  ·left; rw [h1]; simp
  ·exact .inr h1)
 have Hf4 := Lib.hid hf4
 clear hN3 hf3 hf4
 go_wp2
 go_end0
 exact ⟨rfl, vw', HN3.out, Hat.out, Hf4.out⟩
set_option maxHeartbeats 1000000 in
theorem Pop_calls (h n : Nat) (va vw : Value) (flat wait : List Int) (w : World) (H : NodesAt w h va vw n flat wait) (hx : ∀ j, j < wait.length → 0 ≤ rd wait j ∧ rd wait j < n) (hn : n ≤ 1000000) (hl : wait.length ≤ 1000000) (h0 : 0 < wait.length) :
  Calls Tryd.prog 115 #[nv h] w fun e w' => e = .returned (.iface 3 (.int .i64 (rd (popM (ltF flat) wait) (wait.length - 1)))) ∧ ∃ vw', NodesAt w' h va vw' n flat ((popM (ltF flat) wait).take (wait.length - 1)) ∧ vw'.ownBlock = vw.ownBlock ∧ Fr w w' [some h, vw.ownBlock] := by
 have HH := Lib.hid H
 have Hx := Lib.hid hx
 clear H hx
 obtain ⟨m, hm⟩ : ∃ m, wait.length = m + 1 := ⟨wait.length - 1, by omega⟩
 have Hm := Lib.hid hm
 have hmb : m ≤ 1000000 := by omega
 have hpop : popM (ltF flat) wait = downM (ltF flat) (m + 1) (swp wait 0 m) 0 m := by unfold popM; rw [hm]; rfl
 have Hpop := Lib.hid hpop
 clear hpop
 have m1 := m_len
 have m2 := m_swap
 have m3 := m_pop
 go_enter Tryd.func115, Tryd.ntmps115
 go_wp2_with fail
 refine (Len_calls h n va vw flat _ _ HH.out).mono ?_
 rintro e w2 ⟨rfl, rfl⟩
 rw [Hm.out]
 clear hm
 go_wp2_with fail
 refine (Swap_at h n 0 m va vw flat wait _ _ _ HH.out h0 (by rw [Hm.out]; omega) (by first | rfl | omega) (by omega)).mono ?_
 rintro e w3 ⟨rfl, hN3, hf3, _⟩
 have HN3 := Lib.hid hN3
 have Hf3 := Lib.hid hf3
 clear hN3 hf3
 go_wp2_with fail
 refine (down_calls h n 0 m va vw flat _ _ HN3.out (by rw [swp_length, Hm.out]; omega) (Nat.zero_le _) (by rw [swp_length]; exact swp_range h0 (by rw [Hm.out]; omega) Hx.out h0 (by rw [Hm.out]; omega)) hn (by rw [swp_length]; exact hl) (m + 1) (by omega)).mono ?_
 rintro e w4 ⟨⟨b, rfl⟩, hN4, hf4⟩
 rw [← Hpop.out] at hN4
 have hlen : (popM (ltF flat) wait).length = m + 1 := by
  have h1 := (downM_keeps (ltF flat) (m + 1) (swp wait 0 m) 0 m (by rw [swp_length, Hm.out]; omega)).1.length_eq
  rw [Hpop.out, h1, swp_length, Hm.out]
 have Hlen := Lib.hid hlen
 have HN4 := Lib.hid hN4
 have Hf4 := Lib.hid (Hf3.out.sub hf4 (fun o ho => ho))
 clear hN4 hf4 hlen
 go_wp2_with fail
 refine (NPop_calls h n va vw flat _ _ HN4.out (by rw [Hlen.out]; omega)).mono ?_
 rintro e w5 ⟨rfl, vw', hN5, hat, hf5, _⟩
 rw [Hlen.out] at hN5
 rw [Hlen.out]
 have HN5 := Lib.hid hN5
 have Hat := Lib.hid hat
 have Hf5 := Lib.hid ((Hf4.out.mono (T := [some h, vw.ownBlock]) (fun o ho => by simp at ho ⊢; exact .inr ho)).sub hf5 (fun o ho => by simp at ho ⊢; exact .inl ho))
 clear hN5 hat hf5
 go_wp2
 go_ret
 rw [Hm.out]
 exact ⟨rfl, vw', HN5.out, Hat.out, Hf5.out⟩
set_option maxHeartbeats 1000000 in
theorem Init_calls (h n : Nat) (va vw : Value) (flat wait : List Int) (w : World) (H : NodesAt w h va vw n flat wait) (hx : ∀ j, j < wait.length → 0 ≤ rd wait j ∧ rd wait j < n) (hn : n ≤ 1000000) (hl : wait.length ≤ 1000000) :
  Calls Tryd.prog 113 #[nv h] w fun e w' => e = .returned (.tuple #[]) ∧ NodesAt w' h va vw n flat (initM (ltF flat) wait.length (wait.length / 2) wait) ∧ Fr w w' [vw.ownBlock] := by
 have HH := Lib.hid H
 have Hx := Lib.hid hx
 clear H hx
 obtain ⟨R, hR⟩ : ∃ R, initM (ltF flat) wait.length (wait.length / 2) wait = R := ⟨_, rfl⟩
 rw [hR]
 have HR := Lib.hid hR
 clear hR
 have m1 := m_len
 go_enter Tryd.func113, Tryd.ntmps113
 go_wp2_with fail
 refine (Len_calls h n va vw flat _ _ HH.out).mono ?_
 rintro e w2 ⟨rfl, rfl⟩
 have hhalf : ((wait.length : Int)) / 2 = ((wait.length / 2 : Nat) : Int) := by omega
 have hh2 : wait.length / 2 ≤ wait.length := by omega
 generalize hL : wait.length / 2 = c0 at *
 generalize hW : wait.length = L at *
 have HW := Lib.hid hW
 have HL := Lib.hid hL
 clear hW hL
 go_wp2
 go_loopw [3] (fun x wr => ∃ (c : Nat) (l : List Int), c ≤ c0 ∧ x = .int .i64 ((c : Int) - 1) ∧ NodesAt wr h va vw n flat l ∧ l.length = L ∧ Hid (∀ j, j < L → 0 ≤ rd l j ∧ rd l j < n) ∧ Hid (initM (ltF flat) L c l = R) ∧ Hid (Fr w wr [vw.ownBlock])) (fun x _ => (intOf x + 1).toNat)
 case atStart => exact ⟨c0, wait, Nat.le_refl _, rfl, HH.out, HW.out, Hx.out, HR.out, Fr.refl _ _⟩
 case round =>
  obtain ⟨c, l, hc, rfl, hN, hll, Hx2, Hd, Hf⟩ := hrel
  have HN := Lib.hid hN
  have Hll := Lib.hid hll
  clear hN hll
  by_cases h0 : c = 0
  ·subst h0
   go_wp2
   go_end0
   have h1 : l = R := Hd.out
   rw [← h1]
   exact ⟨rfl, HN.out, Hf.out⟩
  ·obtain ⟨q, hq⟩ : ∃ q, c = q + 1 := ⟨c - 1, by omega⟩
   subst hq
   have s1 : ((q + 1 : Nat) : Int) - 1 = q := by omega
   rw [s1]
   clear s1
   go_wp2_with fail
   refine (down_calls h n q L va vw flat l _ HN.out (by rw [Hll.out]; exact Nat.le_refl _) (by omega) (by rw [Hll.out]; exact Hx2.out) hn (by rw [Hll.out]; exact hl) L (by omega)).mono ?_
   rintro e w4 ⟨⟨b, rfl⟩, hN4, hf4⟩
   have hk := downM_keeps (ltF flat) L l q L (by rw [Hll.out]; exact Nat.le_refl _)
   have HN4 := Lib.hid hN4
   have Hlen := Lib.hid (hk.1.length_eq.trans Hll.out)
   have Hx3 : Hid (∀ j, j < L → 0 ≤ rd (downM (ltF flat) L l q L) j ∧ rd (downM (ltF flat) L l q L) j < n) := by
    intro j hj
    have h1 : rd (downM (ltF flat) L l q L) j ∈ l := by
     rw [rd_getElem (by rw [Hlen.out]; exact hj)]
     exact hk.1.mem_iff.1 (List.getElem_mem _)
    obtain ⟨i, hi, e⟩ := List.getElem_of_mem h1
    rw [← e, ← rd_getElem hi]
    exact Hx2.out i (by rw [← Hll.out]; exact hi)
   have Hf4 := Lib.hid (Hf.out.sub hf4 (fun o ho => ho))
   clear hN4 hf4 hk
   go_wp2
   go_roundw
   case rel => exact ⟨q, _, by omega, rfl, HN4.out, Hlen.out, Hx3.out, Hd.out, Hf4.out⟩
   case measure => simp [intOf]
end Go.Proofs.YtendohnkhbgfbaaDoor
