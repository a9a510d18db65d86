/-
  Texts joined into one file: SymsW, Tabs, HuffW, FixW, Ref07W.
-/
import Derived.Test.YtkjoncllnlmdgaaDoorJAw91
import Derived.WalkKit
import Derived.WalkSpells
import Derived.WalkLawsBesides
import Derived.Deep.QuietTactic
import Derived.BigQuiet
import Derived.Lib.Hide
import Derived.Laws.Tables
import Derived.OneCell
import Derived.Deep.RegionWith
import Derived.Deep.Cut
import Derived.Deep.CutRange
import Derived.Deep.CutBlock
/-
  The walks of package syms: of, Length, Distance, Literal, LengthOf, DistanceOf.
-/
namespace Go.Proofs.YtkjoncllnlmdgaaDoor
open Go.RowKit

/-- The table's cells: two a row. -/
def RowsAt (w : World) (g : Nat) (rows : List (Int × Int)) : Prop :=
  ∀ j, j < rows.length → w.cell? ⟨g, j * 2, none⟩ = some (.int .i64 (rowL rows j)) ∧ w.cell? ⟨g, j * 2 + 1, none⟩ = some (.int .i64 (rowB rows j))
theorem RowsAt.below {w w1 : World} {g : Nat} {rows : List (Int × Int)} (h : RowsAt w g rows) (hb : Below w.heap.size w w1) : RowsAt w1 g rows :=
  fun j hj => ⟨(hb.cell (World.block_lt_of_cell? w _ (h j hj).1)).trans (h j hj).1, (hb.cell (World.block_lt_of_cell? w _ (h j hj).2)).trans (h j hj).2⟩

set_option maxHeartbeats 400000 in
theorem of_calls (n first : Int) (rows : List (Int × Int)) (g len : Nat) (w : World) (hlen : rows.length = len) (hn : 0 ≤ n) (hn2 : n ≤ 40000) (hf : 0 ≤ first) (hf2 : first ≤ 1000) (hl : 0 < len) (hl2 : len ≤ 100)
   (hr : ∀ j, j < len → 0 ≤ rowL rows j ∧ rowL rows j ≤ 40000)
   (hr0 : rowL rows 0 ≤ n) (hc : RowsAt w g rows) :
    Calls Tryd.prog 102 #[.int .i64 n, .int .i64 first, .slice (some ⟨g, 0, none⟩) len len] w fun e w' =>
      e = .returned (.agg #[.int .i64 (symS first rows n), .int .i64 (symB rows n), .int .u64 (symX rows n)]) ∧ Below w.heap.size w w' := by
  have hc0 := hc.below ((Below.refl w.heap.size w).alloc (Nat.le_refl _) (Obj.cells #[Value.int IntKind.i64 0, Value.int IntKind.i64 0, Value.int IntKind.u64 0] 122))
  have Hc := Lib.hid hc0
  have Hr := Lib.hid hr
  have Hr0 := Lib.hid hr0
  have Hlen := Lib.hid hlen
  clear hc hc0 hr hr0 hlen
  go_enter Tryd.func102, Tryd.ntmps102
  go_wp2
  go_loop [7] (fun i => ∃ k : Nat, k < len ∧ i = .int .i64 k ∧ Hid (lastLe rows n len = lastLe rows n (k + 1))) (fun i => (intOf i).toNat)
  case atStart => exact ⟨len - 1, by omega, by congr 1; omega, by show _ = _; congr 1; omega⟩
  case round =>
    obtain ⟨k, hk, rfl, hall⟩ := hrel
    have hz := (Hc.out k (Hlen.out ▸ hk)).1
    have hz2 := (Hc.out k (Hlen.out ▸ hk)).2
    have hb := Hr.out k hk
    go_wp2
    · go_round
      case rel =>
        have h1 : 0 < k := by assumption
        have h2 : n < rowL rows k := by assumption
        refine ⟨k - 1, by omega, by go_num, ?_⟩
        have h3 := hall.out
        rw [lastLe_miss rows n k h2] at h3
        rw [show k - 1 + 1 = k from by omega]
        exact h3
      case measure => simp [intOf]; omega
    all_goals
      have Hk : Hid (lastLe rows n len = k) := by
        first
        | exact (hall.out.trans (lastLe_hit rows n k (by assumption)))
        | (obtain rfl : k = 0 := by omega
           exact hall.out.trans (lastLe_one rows n))
      have h2 : rowL rows k ≤ n := by
        first
        | assumption
        | (obtain rfl : k = 0 := by omega
           exact Hr0.out)
      clear hall
      go_region
      go_wp2
      refine bodyPost_ret (v := .agg #[.int .i64 (first + k), .int .i64 (rowB rows k), .int .u64 (n - rowL rows k)]) (by simp [results, Tryd.results102, go_sem]) rfl ⟨?_, ((Below.refl _ _).alloc (Nat.le_refl _) _).drew⟩
      have hk3 := Hk.out
      unfold symS symB symX
      rw [Hlen.out, hk3]

set_option maxHeartbeats 400000 in
theorem Length_calls (n : Int) (w : World) (hn : -9223372036854775808 ≤ n) (hn2 : n ≤ 9223372036854775807) (hc : RowsAt w 1 lens) :
    Calls Tryd.prog 82 #[.int .i64 n] w fun e w' =>
      e = .returned (.agg #[.int .i64 (symS 257 lens (clampL n)), .int .i64 (symB lens (clampL n)), .int .u64 (symX lens (clampL n))]) ∧ Below w.heap.size w w' := by
  have hc0 := hc.below ((Below.refl w.heap.size w).alloc (Nat.le_refl _) (Obj.cells #[Value.int IntKind.i64 0, Value.int IntKind.i64 0, Value.int IntKind.u64 0] 122))
  have Hc := Lib.hid hc0
  clear hc hc0
  go_enter Tryd.func82, Tryd.ntmps82
  go_wp2_with (go_at_call 102; refine (of_calls _ 257 lens _ 29 _ rfl (by omega) (by omega) (by omega) (by omega) (by omega) (by omega) (fun j hj => by have := lens_range j hj; omega) (by show (3 : Int) ≤ _; omega) Hc.out).mono ?_; rintro e w' ⟨rfl, hb⟩; obtain ⟨c0, f0⟩ := laid_kept hb 0 _ rfl; obtain ⟨c1, f1⟩ := laid_kept hb 1 _ rfl; obtain ⟨c2, f2⟩ := laid_kept hb 2 _ rfl)
  all_goals
    have h5 : Below w.heap.size w w' := ((Below.refl _ _).alloc (Nat.le_refl _) _).trans (hb.mono (by simp))
    refine bodyPost_ret (v := .agg #[.int .i64 (symS 257 lens (clampL n)), .int .i64 (symB lens (clampL n)), .int .u64 (symX lens (clampL n))]) ?_ rfl ⟨rfl, ((h5.setCell (Nat.le_refl _) _).setCell (Nat.le_refl _) _).setCell (Nat.le_refl _) _⟩
    first
    | rw [clampL_lo (by omega)]
    | rw [clampL_hi (by omega)]
    | rw [clampL_in (by omega) (by omega)]
    simp [results, Tryd.results82, go_sem, c0, c1, c2]

set_option maxHeartbeats 400000 in
theorem Distance_calls (n : Int) (w : World) (hn : -9223372036854775808 ≤ n) (hn2 : n ≤ 9223372036854775807) (hc : RowsAt w 2 dists) :
    Calls Tryd.prog 83 #[.int .i64 n] w fun e w' =>
      e = .returned (.agg #[.int .i64 (symS 0 dists (clampD n)), .int .i64 (symB dists (clampD n)), .int .u64 (symX dists (clampD n))]) ∧ Below w.heap.size w w' := by
  have hc0 := hc.below ((Below.refl w.heap.size w).alloc (Nat.le_refl _) (Obj.cells #[Value.int IntKind.i64 0, Value.int IntKind.i64 0, Value.int IntKind.u64 0] 122))
  have Hc := Lib.hid hc0
  clear hc hc0
  go_enter Tryd.func83, Tryd.ntmps83
  go_wp2_with (go_at_call 102; refine (of_calls _ 0 dists _ 30 _ rfl (by omega) (by omega) (by omega) (by omega) (by omega) (by omega) (fun j hj => by have := dists_range j hj; omega) (by show (1 : Int) ≤ _; omega) Hc.out).mono ?_; rintro e w' ⟨rfl, hb⟩; obtain ⟨c0, f0⟩ := laid_kept hb 0 _ rfl; obtain ⟨c1, f1⟩ := laid_kept hb 1 _ rfl; obtain ⟨c2, f2⟩ := laid_kept hb 2 _ rfl)
  all_goals
    have h5 : Below w.heap.size w w' := ((Below.refl _ _).alloc (Nat.le_refl _) _).trans (hb.mono (by simp))
    refine bodyPost_ret (v := .agg #[.int .i64 (symS 0 dists (clampD n)), .int .i64 (symB dists (clampD n)), .int .u64 (symX dists (clampD n))]) ?_ rfl ⟨rfl, ((h5.setCell (Nat.le_refl _) _).setCell (Nat.le_refl _) _).setCell (Nat.le_refl _) _⟩
    first
    | rw [clampD_lo (by omega)]
    | rw [clampD_hi (by omega)]
    | rw [clampD_in (by omega) (by omega)]
    simp [results, Tryd.results83, go_sem, c0, c1, c2]

set_option maxHeartbeats 400000 in
theorem Literal_calls (b : Int) (w : World) (h0 : 0 ≤ b) (h1 : b ≤ 255) :
    Calls Tryd.prog 81 #[.int .u8 b] w fun e w' =>
      e = .returned (.agg #[.int .i64 b, .int .i64 0, .int .u64 0]) ∧ Below w.heap.size w w' := by
  go_enter Tryd.func81, Tryd.ntmps81
  go_wp2
  exact bodyPost_ret (v := .agg #[.int .i64 b, .int .i64 0, .int .u64 0]) (by simp [results, Tryd.results81, go_sem]) rfl ⟨rfl, (Below.refl _ _).alloc (Nat.le_refl _) _⟩

/-- What 'LengthOf', 'DistanceOf' answer. -/
def lenOfE (s : Int) : Ending := if 257 ≤ s ∧ s ≤ 285 then .returned (.tuple #[.int .i64 (rowL lens (s - 257).toNat), .int .i64 (rowB lens (s - 257).toNat), .bool true]) else .returned (.tuple #[.int .i64 0, .int .i64 0, .bool false])
def distOfE (s : Int) : Ending := if 0 ≤ s ∧ s ≤ 29 then .returned (.tuple #[.int .i64 (rowL dists s.toNat), .int .i64 (rowB dists s.toNat), .bool true]) else .returned (.tuple #[.int .i64 0, .int .i64 0, .bool false])

set_option maxHeartbeats 400000 in
theorem LengthOf_calls (s : Int) (w : World) (hn : -9223372036854775808 ≤ s) (hn2 : s ≤ 9223372036854775807) (hc : RowsAt w 1 lens) :
    Calls Tryd.prog 111 #[.int .i64 s] w fun e w' => e = lenOfE s ∧ Below w.heap.size w w' := by
  have Hc := Lib.hid hc
  clear hc
  by_cases h : 257 ≤ s ∧ s ≤ 285
  · obtain ⟨ha, hb⟩ := h
    have he : lenOfE s = .returned (.tuple #[.int .i64 (rowL lens (s - 257).toNat), .int .i64 (rowB lens (s - 257).toNat), .bool true]) := if_pos ⟨ha, hb⟩
    rw [he]
    clear he
    obtain ⟨k, rfl⟩ : ∃ k : Nat, s = 257 + k := ⟨(s - 257).toNat, by omega⟩
    have hz : w.cell? ⟨1, (257 + k - 256 - 1) * 2, none⟩ = some (.int .i64 (rowL lens k)) := by rw [show 257 + k - 256 - 1 = k from by omega]; exact (Hc.out k (by rw [lens_length]; omega)).1
    have hz2 : w.cell? ⟨1, (257 + k - 256 - 1) * 2 + 1, none⟩ = some (.int .i64 (rowB lens k)) := by rw [show 257 + k - 256 - 1 = k from by omega]; exact (Hc.out k (by rw [lens_length]; omega)).2
    rw [show ((257 : Int) + k - 257).toNat = k from by omega]
    go_enter Tryd.func111, Tryd.ntmps111
    go_wp2
    go_region
    go_wp2
    go_ret3
    exact ⟨rfl, ((Below.refl _ _).alloc (Nat.le_refl _) _).drew⟩
  · rw [show lenOfE s = .returned (.tuple #[.int .i64 0, .int .i64 0, .bool false]) from if_neg h]
    by_cases h2 : s ≤ 256
    · go_enter Tryd.func111, Tryd.ntmps111
      go_wp2
      go_ret3
      exact ⟨rfl, Below.refl _ _⟩
    · have h3 : 286 ≤ s := by omega
      clear h
      go_enter Tryd.func111, Tryd.ntmps111
      go_wp2
      go_ret3
      exact ⟨rfl, Below.refl _ _⟩

set_option maxHeartbeats 400000 in
theorem DistanceOf_calls (s : Int) (w : World) (hn : -9223372036854775808 ≤ s) (hn2 : s ≤ 9223372036854775807) (hc : RowsAt w 2 dists) :
    Calls Tryd.prog 112 #[.int .i64 s] w fun e w' => e = distOfE s ∧ Below w.heap.size w w' := by
  have Hc := Lib.hid hc
  clear hc
  by_cases h : 0 ≤ s ∧ s ≤ 29
  · obtain ⟨ha, hb⟩ := h
    have he : distOfE s = .returned (.tuple #[.int .i64 (rowL dists s.toNat), .int .i64 (rowB dists s.toNat), .bool true]) := if_pos ⟨ha, hb⟩
    rw [he]
    clear he
    obtain ⟨k, rfl⟩ : ∃ k : Nat, s = k := ⟨s.toNat, by omega⟩
    have hz := (Hc.out k (by rw [dists_length]; omega)).1
    have hz2 := (Hc.out k (by rw [dists_length]; omega)).2
    rw [Int.toNat_natCast]
    go_enter Tryd.func112, Tryd.ntmps112
    go_wp2
    go_region
    go_wp2
    go_ret3
    exact ⟨rfl, (Below.refl _ _).drew⟩
  · rw [show distOfE s = .returned (.tuple #[.int .i64 0, .int .i64 0, .bool false]) from if_neg h]
    by_cases h2 : s < 0
    · go_enter Tryd.func112, Tryd.ntmps112
      go_wp2
      go_ret3
      exact ⟨rfl, Below.refl _ _⟩
    · have h3 : 30 ≤ s := by omega
      clear h
      go_enter Tryd.func112, Tryd.ntmps112
      go_wp2
      go_ret3
      exact ⟨rfl, Below.refl _ _⟩
end Go.Proofs.YtkjoncllnlmdgaaDoor
/-
  The tables of the symbols, as the walks need them.
-/
namespace Go.Proofs.YtkjoncllnlmdgaaDoor
open Go.RowKit

def Tabs (w : World) : Prop := RowsAt w 1 lens ∧ RowsAt w 2 dists
theorem Tabs.below {w w1 : World} (h : Tabs w) (hb : Below w.heap.size w w1) : Tabs w1 := ⟨h.1.below hb, h.2.below hb⟩
theorem Tabs.alloc {w : World} (h : Tabs w) (o : Obj) : Tabs (w.alloc o) := h.below ((Below.refl _ _).alloc (Nat.le_refl _) _)
end Go.Proofs.YtkjoncllnlmdgaaDoor
/-
  The walks of package huff: counts, Right.
-/
namespace Go.Proofs.YtkjoncllnlmdgaaDoor
open Go.RowKit

/-- How many of the first k lengths are j. -/
def cntTo (xs : List Int) (k : Nat) : List Int := (List.range 16).map fun (j : Nat) => (((xs.take k).filter fun x => x == (j : Int)).length : Int)
def lensOk (xs : List Int) : Bool := xs.all fun x => decide (0 ≤ x ∧ x ≤ 15)
def cntOf (xs : List Int) : List Int := (cntTo xs xs.length).set 0 0

theorem cntTo_length (xs : List Int) (k : Nat) : (cntTo xs k).length = 16 := by simp [cntTo]
theorem rd_cntTo (xs : List Int) (k j : Nat) (h : j < 16) : rd (cntTo xs k) j = (((xs.take k).filter fun x => x == (j : Int)).length : Int) := by
  rw [rd_getElem (by rw [cntTo_length]; exact h)]
  simp [cntTo]
theorem rd_cntTo_le (xs : List Int) (k j : Nat) (h : j < 16) : 0 ≤ rd (cntTo xs k) j ∧ rd (cntTo xs k) j ≤ k := by
  rw [rd_cntTo xs k j h]
  have h1 := List.length_filter_le (fun x => x == (j : Int)) (xs.take k)
  have h2 := List.length_take_le k xs
  omega
theorem ext_rd {a b : List Int} (hl : a.length = b.length) (h : ∀ j, j < a.length → rd a j = rd b j) : a = b := by
  apply List.ext_getElem hl
  intro i h1 h2
  rw [← rd_getElem h1, ← rd_getElem h2]
  exact h i h1
theorem cntTo_succ (xs : List Int) (k m : Nat) (hk : k < xs.length) (hm : rd xs k = (m : Int)) (h16 : m < 16) : cntTo xs (k + 1) = (cntTo xs k).set m (rd (cntTo xs k) m + 1) := by
  apply ext_rd (by simp [cntTo_length])
  intro j hj
  rw [cntTo_length] at hj
  rw [rd_set (by rw [cntTo_length]; exact h16), rd_cntTo _ _ _ hj, rd_cntTo _ _ _ h16, rd_cntTo _ _ _ hj, List.take_succ_eq_append_getElem hk, ← rd_getElem hk, hm, List.filter_append]
  by_cases e : m = j
  · subst e
    rw [if_pos rfl]
    simp
  · rw [if_neg e]
    have : ((m : Int) == (j : Int)) = false := by simp; omega
    simp [this]

set_option maxHeartbeats 1000000 in
set_option maxRecDepth 200000 in
theorem counts_calls (A : Option Addr) (n cap : Nat) (xs : List Int) (w : World) (hR : Rd w .i64 A n xs) (hn : n ≤ 140737488351232) :
    Calls Tryd.prog 73 #[.slice A n cap] w fun e w' => ∃ l : List Int, l.length = 16 ∧ e = .returned (.tuple #[.agg (ints .i64 l).toArray, .bool (lensOk xs)]) ∧ (lensOk xs = true → l = cntOf xs) ∧ Below w.heap.size w w' := by
  have HR := Lib.hid hR
  have hlen := Lib.hid hR.1
  clear hR
  go_enter Tryd.func73, Tryd.ntmps73
  go_wp2
  go_loopw [6, 9] (fun x i wr => ∃ k : Nat, k ≤ n ∧ i = .int .i64 k ∧ Blk wr w.heap.size 107 .i64 (List.replicate 16 0) ∧ Blk wr (w.heap.size + 1) 107 .i64 (cntTo xs k) ∧ Hid (lensOk (xs.take k) = true) ∧ Below w.heap.size w wr) (fun _ i _ => n - (intOf i).toNat)
  case atStart =>
    refine ⟨0, by omega, rfl, ?_, ?_, rfl, below_new (below_new (Below.refl _ _) (Nat.le_refl _) _) (Nat.le_refl _) _⟩
    · exact heap_alloc2_old _ _ _
    · exact heap_alloc2_new _ _ _
  case round =>
    obtain ⟨k, hk, rfl, hB0, hB1, Hok, hbel⟩ := hrel
    have HB0 := Lib.hid hB0
    have HB1 := Lib.hid hB1
    have Hbel := Lib.hid hbel
    clear hB0 hB1 hbel
    by_cases hlt : k < n
    · obtain ⟨b, o, rfl, hc⟩ := HR.out.2 (by omega)
      have hck := kept_cell Hbel.out (hc k hlt)
      clear hc
      by_cases hx : 0 ≤ rd xs k ∧ rd xs k ≤ 15
      · obtain ⟨hx0, hx1⟩ := hx
        obtain ⟨m, hm⟩ : ∃ m : Nat, rd xs k = m := ⟨(rd xs k).toNat, by omega⟩
        rw [hm] at hck hx0 hx1
        have Hm := Lib.hid hm
        clear hm
        have hcm := HB1.out.cell (j := m) (by rw [cntTo_length]; omega)
        have hfm := HB1.out.frozen m
        have hrg := rd_cntTo_le xs k m (by omega)
        go_wp2
        go_roundw
        case rel =>
          refine ⟨k + 1, by omega, by go_num, HB0.out.other _ _ (by simp), ?_, ?_, Hbel.out.setCell (by simp) _⟩
          · rw [cntTo_succ xs k m (by rw [hlen.out]; omega) Hm.out (by omega)]
            exact HB1.out.set _ _
          · show lensOk _ = true
            rw [List.take_succ_eq_append_getElem (by rw [hlen.out]; omega)]
            have h1 : lensOk (xs.take k) = true := Hok.out
            unfold lensOk at *
            rw [List.all_append, h1, ← rd_getElem (by rw [hlen.out]; omega), Hm.out]
            simp
            omega
        case measure => simp [intOf]; omega
      · have hno : lensOk xs = false := by
          unfold lensOk
          rw [List.all_eq_false]
          exact ⟨xs[k]'(by rw [hlen.out]; omega), List.getElem_mem _, by rw [← rd_getElem (by rw [hlen.out]; omega)]; simpa using hx⟩
        have hways : rd xs k < 0 ∨ (0 ≤ rd xs k ∧ 15 < rd xs k) := by omega
        clear hx
        have hs : (ints .i64 (cntTo xs k)).toArray.size = 16 := by simp [ints_length, cntTo_length]
        have Hno := Lib.hid hno
        have Hs := Lib.hid hs
        clear hno hs
        rcases hways with h1 | ⟨h1, h2⟩
        all_goals
          go_wp2_with (first
            | (refine wpList_load_row rfl 107 _ rfl (w.heap.size + 1) rfl 107 _ (0, 0) _ HB1.out Tryd.underlying107 rfl (by rw [Hs.out]; kernel_rfl) ?_)
            | (refine wpList_store_row rfl 107 _ _ rfl w.heap.size _ rfl rfl 107 _ HB0.out (by rw [Hs.out]; kernel_rfl) (by rw [Hs.out]; simp [ints]) (ints_one _ _) ?_))
          have hrow := setRow_heap wr w.heap.size _ (ints .i64 (cntTo xs k)).toArray 107 _ HB0.out
          have hl := run_loadVar_row (P := Tryd.prog) _ w.heap.size 107 107 _ _ _ hrow Tryd.underlying107 rfl (by rw [Hs.out]; kernel_rfl)
          refine bodyPost_ret (v := .tuple #[.agg (ints .i64 (cntTo xs k)).toArray, .bool false]) ?_ rfl ⟨cntTo xs k, cntTo_length _ _, by rw [Hno.out], (fun h => absurd h (by rw [Hno.out]; decide)), ?_⟩
          · simp [results, Tryd.results73, asAddr, hl]
          · exact Hbel.out.trans ⟨rfl, rfl, rfl, by simp, fun i hi => setRow_other wr w.heap.size i _ (by omega)⟩
    · obtain rfl : k = n := by omega
      have hs : (ints .i64 ((cntTo xs k).set 0 0)).toArray.size = 16 := by simp [ints_length, cntTo_length]
      have Hs := Lib.hid hs
      have hok : lensOk xs = true := by
        have h1 : lensOk (xs.take k) = true := Hok.out
        rwa [List.take_of_length_le (by rw [hlen.out]; exact Nat.le_refl _)] at h1
      have Hk := Lib.hid hok
      clear hs hok
      have hc0 := HB1.out.cell (j := 0) (by rw [cntTo_length]; omega)
      have hf0 := HB1.out.frozen 0
      have HB1' := Lib.hid (HB1.out.set 0 0)
      have HB0' := Lib.hid (HB0.out.other ⟨w.heap.size + 1, 0, none⟩ (.int .i64 0) (by simp))
      go_wp2_with (first
        | (refine wpList_load_row rfl 107 _ rfl (w.heap.size + 1) rfl 107 _ (0, 0) _ HB1'.out Tryd.underlying107 rfl (by rw [Hs.out]; kernel_rfl) ?_)
        | (refine wpList_store_row rfl 107 _ _ rfl w.heap.size _ rfl rfl 107 _ HB0'.out (by rw [Hs.out]; kernel_rfl) (by rw [Hs.out]; simp [ints]) (ints_one _ _) ?_))
      have hrow := setRow_heap _ w.heap.size _ (ints .i64 ((cntTo xs k).set 0 0)).toArray 107 _ HB0'.out
      have hl := run_loadVar_row (P := Tryd.prog) _ w.heap.size 107 107 _ _ _ hrow Tryd.underlying107 rfl (by rw [Hs.out]; kernel_rfl)
      refine bodyPost_ret (v := .tuple #[.agg (ints .i64 ((cntTo xs k).set 0 0)).toArray, .bool true]) ?_ rfl ⟨(cntTo xs k).set 0 0, by rw [List.length_set, cntTo_length], by rw [Hk.out], fun _ => by unfold cntOf; rw [hlen.out], ?_⟩
      · simp [results, Tryd.results73, asAddr, hl]
      · exact (Hbel.out.setCell (by simp) _).trans ⟨rfl, rfl, rfl, by simp, fun i hi => setRow_other _ w.heap.size i _ (by omega)⟩
/-- What is left of 1 behind i lengths, doubled each time; how many there are. -/
def leftAt (c : List Int) : Nat → Int
  | 0 => 1
  | i + 1 => 2 * leftAt c i - rd c (i + 1)
def sumAt (c : List Int) : Nat → Int
  | 0 => 0
  | i + 1 => sumAt c i + rd c (i + 1)
def leftOk (c : List Int) (i : Nat) : Bool := (List.range i).all fun j => decide (0 ≤ leftAt c (j + 1))
theorem leftOk_succ (c : List Int) (i : Nat) : leftOk c (i + 1) = (leftOk c i && decide (0 ≤ leftAt c (i + 1))) := by
  simp [leftOk, List.range_succ]
def rightOf (c : List Int) : Bool := leftOk c 15 && (leftAt c 15 == 0 || (sumAt c 15 == 1 && rd c 1 == 1))
def rightB (xs : List Int) : Bool := lensOk xs && rightOf (cntOf xs)

theorem leftOk_no (c : List Int) (i k : Nat) (hk : k < i) (h : leftAt c (k + 1) < 0) : leftOk c i = false := by
  unfold leftOk
  rw [List.all_eq_false]
  exact ⟨k, List.mem_range.2 hk, by simp; omega⟩
theorem rd_cntOf (xs : List Int) (j : Nat) (h : j < 16) : 0 ≤ rd (cntOf xs) j ∧ rd (cntOf xs) j ≤ xs.length := by
  unfold cntOf
  rw [rd_set (by rw [cntTo_length]; omega)]
  split
  · omega
  · exact rd_cntTo_le xs xs.length j h
theorem leftAt_le (c : List Int) (hc : ∀ j, j < 16 → 0 ≤ rd c j) (i : Nat) (hi : i < 16) : leftAt c i ≤ 2 ^ i := by
  induction i with
  | zero => simp [leftAt]
  | succ i ih =>
    have h1 := ih (by omega)
    have h2 := hc (i + 1) hi
    simp only [leftAt, Int.pow_succ]
    omega
theorem sumAt_le (c : List Int) (n : Int) (hc : ∀ j, j < 16 → 0 ≤ rd c j ∧ rd c j ≤ n) (i : Nat) (hi : i < 16) : 0 ≤ sumAt c i ∧ sumAt c i ≤ i * n := by
  induction i with
  | zero => simp [sumAt]
  | succ i ih =>
    have h1 := ih (by omega)
    have h2 := hc (i + 1) hi
    simp only [sumAt]
    have e : ((i + 1 : Nat) : Int) * n = i * n + n := by rw [Int.natCast_add, Int.add_mul]; simp
    rw [e]
    omega

set_option maxHeartbeats 1000000 in
set_option maxRecDepth 200000 in
theorem Right_calls (A : Option Addr) (n cap : Nat) (xs : List Int) (w : World) (hR : Rd w .i64 A n xs) (hn : n ≤ 140737488351232) :
    Calls Tryd.prog 72 #[.slice A n cap] w fun e w' => e = .returned (.bool (rightB xs)) ∧ Below w.heap.size w w' := by
  have HR := Lib.hid hR
  have hlen := Lib.hid hR.1
  clear hR
  go_enter Tryd.func72, Tryd.ntmps72
  go_wp2_with fail
  refine (counts_calls A n cap xs _ HR.out hn).mono ?_
  rintro e w1 ⟨l, hl, rfl, hcnt, hb1⟩
  have Hl := Lib.hid hl
  cases hok : lensOk xs
  · have hrb : rightB xs = false := by unfold rightB; rw [hok]; rfl
    have Hrb := Lib.hid hrb
    have Hb1 := Lib.hid hb1
    clear hl hcnt hb1 hok hrb
    go_wp2_with (first
      | (refine wpList_store_row rfl 107 _ _ rfl w1.heap.size _ rfl rfl 107 _ (heap_alloc_new _ _) (by rw [ints_size, Hl.out]; kernel_rfl) (by rw [ints_size, Hl.out]; rfl) (ints_one _ _) ?_))
    go_ret
    rw [Hrb.out]
    exact ⟨rfl, (below_new Hb1.out (Nat.le_refl _) _).trans ⟨rfl, rfl, rfl, by simp, fun i hi => setRow_other _ w1.heap.size i _ (by have := Hb1.out.size; omega)⟩⟩
  · obtain rfl := hcnt hok
    have hrb : rightB xs = rightOf (cntOf xs) := by unfold rightB; rw [hok]; rfl
    have hrng := fun j hj => rd_cntOf xs j hj
    rw [hlen.out] at hrng
    generalize cntOf xs = c at *
    have Hrb := Lib.hid hrb
    have Hb1 := Lib.hid hb1
    have Hrng := Lib.hid hrng
    clear hl hcnt hb1 hok hrb hrng
    go_wp2_with (first
      | (refine wpList_store_row rfl 107 _ _ rfl w1.heap.size _ rfl rfl 107 _ (heap_alloc_new _ _) (by rw [ints_size, Hl.out]; kernel_rfl) (by rw [ints_size, Hl.out]; rfl) (ints_one _ _) ?_))
    have HB : Hid (Blk _ w1.heap.size 107 .i64 c) := setRow_heap _ w1.heap.size _ (ints .i64 c).toArray 107 _ (heap_alloc_new w1 (Obj.cells #[.int .i64 0, .int .i64 0, .int .i64 0, .int .i64 0, .int .i64 0, .int .i64 0, .int .i64 0, .int .i64 0, .int .i64 0, .int .i64 0, .int .i64 0, .int .i64 0, .int .i64 0, .int .i64 0, .int .i64 0, .int .i64 0] 107))
    have HW : Hid (Below w.heap.size w (World.setRow (w1.alloc (Obj.cells #[.int .i64 0, .int .i64 0, .int .i64 0, .int .i64 0, .int .i64 0, .int .i64 0, .int .i64 0, .int .i64 0, .int .i64 0, .int .i64 0, .int .i64 0, .int .i64 0, .int .i64 0, .int .i64 0, .int .i64 0, .int .i64 0] 107)) w1.heap.size (ints .i64 c).toArray)) := (below_new Hb1.out (Nat.le_refl _) _).trans ⟨rfl, rfl, rfl, by simp, fun i hi => setRow_other _ w1.heap.size i _ (by have := Hb1.out.size; omega)⟩
    generalize World.setRow (w1.alloc (Obj.cells #[.int .i64 0, .int .i64 0, .int .i64 0, .int .i64 0, .int .i64 0, .int .i64 0, .int .i64 0, .int .i64 0, .int .i64 0, .int .i64 0, .int .i64 0, .int .i64 0, .int .i64 0, .int .i64 0, .int .i64 0, .int .i64 0] 107)) w1.heap.size (ints .i64 c).toArray = W at *
    go_loop [5, 6, 7] (fun l a i => ∃ k : Nat, k ≤ 15 ∧ i = .int .i64 (1 + k) ∧ l = .int .i64 (leftAt c k) ∧ a = .int .i64 (sumAt c k) ∧ Hid (leftOk c k = true) ∧ 0 ≤ leftAt c k) (fun _ _ i => 16 - (intOf i).toNat)
    case atStart => exact ⟨0, by omega, rfl, rfl, rfl, rfl, by show (0 : Int) ≤ 1; omega⟩
    case round =>
      obtain ⟨k, hk, rfl, rfl, rfl, Hok, h0⟩ := hrel
      have hle := leftAt_le c (fun j hj => (Hrng.out j hj).1) k (by omega)
      have hle2 : (2 : Int) ^ k ≤ 2 ^ 15 := by
        have : (2 : Nat) ^ k ≤ 2 ^ 15 := Nat.pow_le_pow_right (by omega) hk
        exact_mod_cast this
      have hle3 : leftAt c k ≤ 32768 := Int.le_trans hle (Int.le_trans hle2 (by decide))
      have hsum := sumAt_le c n Hrng.out k (by omega)
      have hsum2 : sumAt c k ≤ 15 * n := by
        have : (k : Int) * n ≤ 15 * n := Int.mul_le_mul_of_nonneg_right (by omega) (by omega)
        omega
      obtain ⟨hs0, _⟩ := hsum
      clear hle hle2
      by_cases hlt : k < 15
      · have hcell := HB.out.cell (j := 1 + k) (by rw [Hl.out]; omega)
        have hr := Hrng.out (1 + k) (by omega)
        have el : leftAt c (k + 1) = 2 * leftAt c k - rd c (1 + k) := by rw [Nat.add_comm 1 k]; rfl
        have es : sumAt c (k + 1) = sumAt c k + rd c (1 + k) := by rw [Nat.add_comm 1 k]; rfl
        have El := Lib.hid el
        have Es := Lib.hid es
        clear el es
        go_wp2
        · go_ret
          have h1 : 2 * leftAt c k - rd c (1 + k) < 0 := by assumption
          rw [← El.out] at h1
          refine ⟨?_, HW.out⟩
          rw [Hrb.out, show rightOf c = false from by unfold rightOf; rw [leftOk_no c 15 k hlt h1]; rfl]
          rfl
        · go_round
          case rel =>
            have h1 : 0 ≤ 2 * leftAt c k - rd c (1 + k) := by assumption
            refine ⟨k + 1, by omega, by go_num, by rw [El.out], by rw [Es.out], ?_, by rw [El.out]; exact h1⟩
            show leftOk c (k + 1) = true
            have h2 : leftOk c k = true := Hok.out
            rw [leftOk_succ, h2, El.out]
            simpa using h1
          case measure => simp [intOf]; omega
      · obtain rfl : k = 15 := by omega
        have hcell := HB.out.cell (j := 1) (by rw [Hl.out]; omega)
        have hfin : rightB xs = (leftAt c 15 == 0 || (sumAt c 15 == 1 && rd c 1 == 1)) := by
          have h2 : leftOk c 15 = true := Hok.out
          rw [Hrb.out]; unfold rightOf; rw [h2]; rfl
        have Hfin := Lib.hid hfin
        clear hfin
        rcases Int.lt_trichotomy (leftAt c 15) 0 with g1 | g1 | g1
        · omega
        · have g2 : (leftAt c 15 == 0) = true := by simpa using g1
          have G := Lib.hid g1
          clear g1
          go_wp2
          go_ret
          refine ⟨?_, HW.out⟩
          rw [Hfin.out, G.out]
          rfl
        · have g2 : (leftAt c 15 == 0) = false := by simp; omega
          cases g3 : (sumAt c 15 == 1)
          all_goals
            go_wp2
            go_ret
            refine ⟨?_, HW.out⟩
            rw [Hfin.out, g2, g3]
            rfl
#print axioms Right_calls
end Go.Proofs.YtkjoncllnlmdgaaDoor
/-
  The walk of syms.Fixed.
-/
namespace Go.Proofs.YtkjoncllnlmdgaaDoor
open Go.RowKit

theorem elIntF : ElT Tryd.prog 26 3 (.int .i64 0) 1 8 := ⟨Tryd.underlying26, by kernel_rfl, rfl, by decide, by decide⟩
def fixAt (j : Nat) : Int := if j < 144 then 8 else if j < 256 then 9 else if j < 280 then 7 else 8
def fixA : List Int := (List.range 288).map fixAt
def fixB : List Int := List.replicate 32 5
theorem fixA_length : fixA.length = 288 := by simp [fixA]
theorem rd_fixA (j : Nat) (h : j < 288) : rd fixA j = fixAt j := by
  rw [rd_getElem (by rw [fixA_length]; exact h)]
  simp [fixA]
theorem rd_fixB (j : Nat) (h : j < 32) : rd fixB j = 5 := by
  rw [rd_getElem (by unfold fixB; rw [List.length_replicate]; exact h)]
  unfold fixB
  rw [List.getElem_replicate]
theorem right_fixA : rightB fixA = true := by kernel_rfl
theorem right_fixB : rightB fixB = true := by kernel_rfl

set_option maxHeartbeats 1000000 in
set_option maxRecDepth 100000 in
theorem Fixed_calls (w : World) :
    Calls Tryd.prog 53 #[] w fun e w' => ∃ ga gb, e = .returned (.tuple #[.slice (some ⟨ga, 0, none⟩) 288 288, .slice (some ⟨gb, 0, none⟩) 32 32]) ∧
      w'.ownsRow w.heap.size 3 1 (.slice (some ⟨ga, 0, none⟩) 288 288) 288 (ints .i64 fixA) ∧ w'.ownsRow w.heap.size 3 1 (.slice (some ⟨gb, 0, none⟩) 32 32) 32 (ints .i64 fixB) ∧ Below w.heap.size w w' := by
  go_enter Tryd.func53, Tryd.ntmps53
  go_upto_region 1 with fail
  go_cut [2, 3] from 6 to 7 (fun a b wx => ∃ ga gb, ga ≠ gb ∧ a = .slice (some ⟨ga, 0, none⟩) 288 288 ∧ b = .slice (some ⟨gb, 0, none⟩) 32 32 ∧ (∃ la, wx.ownsRow w.heap.size 3 1 a 288 (ints .i64 la)) ∧ (∃ lb, wx.ownsRow w.heap.size 3 1 b 32 (ints .i64 lb)) ∧ Below w.heap.size w wx)
  case first =>
    obtain ⟨oA, la, mA, _, rA⟩ := make_rule elIntF 288 288 rfl (by decide)
    obtain ⟨oB, lb, mB, _, rB⟩ := make_rule elIntF 32 32 rfl (by decide)
    go_wp2
    go_region
    · go_wp2
      go_meet
      exact ⟨w.heap.size, w.heap.size + 1, by omega, by simp, by simp, ⟨la, (rA.out w.drew _ _ rfl (Nat.le_refl _)).alloc _⟩, ⟨lb, rB.out (w.drew.alloc oA) _ _ (by simp) (by omega)⟩, below_new (below_new (Below.refl _ _).drew (Nat.le_refl _) _) (Nat.le_refl _) _⟩
    · go_wp2
      go_meet
      exact ⟨w.heap.size + 1, w.heap.size, by omega, by simp, by simp, ⟨la, rA.out (w.drew.alloc oB) _ _ (by simp) (by omega)⟩, ⟨lb, (rB.out w.drew _ _ rfl (Nat.le_refl _)).alloc _⟩, below_new (below_new (Below.refl _ _).drew (Nat.le_refl _) _) (Nat.le_refl _) _⟩
  case rest =>
    obtain ⟨ga, gb, hne, rfl, rfl, ⟨la, hownA⟩, ⟨lb, hownB⟩, hb⟩ := hcut
    have HA := Lib.hid hownA
    have HB := Lib.hid hownB
    have Hb := Lib.hid hb
    have hs := hb.size
    clear hownA hownB hb
    go_wp2
    go_loopw [10] (fun i wr => ∃ (k : Nat) (l : List Int), k ≤ 288 ∧ i = .int .i64 k ∧ wr.ownsRow w.heap.size 3 1 (.slice (some ⟨ga, 0, none⟩) 288 288) 288 (ints .i64 l) ∧ wr.ownsRow w.heap.size 3 1 (.slice (some ⟨gb, 0, none⟩) 32 32) 32 (ints .i64 lb) ∧ Hid (∀ j, j < k → rd l j = fixAt j) ∧ Below w.heap.size w wr) (fun i _ => 288 - (intOf i).toNat)
    case atStart => exact ⟨0, _, by omega, rfl, HA.out, HB.out, (fun j hj => by omega), Hb.out⟩
    case round =>
      obtain ⟨k, l, hk, rfl, hA, hB, Hl, hbel⟩ := hrel
      have hga := (hA.lt ga rfl).1
      have hll : l.length = 288 := by have := hA.1; simpa [ints] using this
      have HA := Lib.hid hA
      have HB := Lib.hid hB
      have Hbel := Lib.hid hbel
      clear hA hB hbel
      by_cases hlt : k < 288
      · have hf := HA.out.frozenAt k
        have hcell := HA.out.cellAt k (by omega)
        rw [ints_get (by omega)] at hcell
        by_cases h1 : k < 144
        · have hv : fixAt k = 8 := by unfold fixAt; rw [if_pos h1]
          go_wp2
          go_roundw
          case rel =>
            refine ⟨k + 1, l.set k 8, by omega, by go_num, by rw [ints_set]; exact (HA.out.stored k _).1, ownsRow_setCell_other HB.out (by simpa [Value.ownBlock] using hne.symm) _, ?_, Hbel.out.setCell hga _⟩
            intro j hj
            rw [rd_set (by omega)]
            split
            · rename_i e; rw [← e, hv]
            · exact Hl.out j (by omega)
          case measure => simp [intOf]; omega
        · by_cases h2 : k < 256
          · have hv : fixAt k = 9 := by unfold fixAt; rw [if_neg h1, if_pos h2]
            go_wp2
            go_roundw
            case rel =>
              refine ⟨k + 1, l.set k 9, by omega, by go_num, by rw [ints_set]; exact (HA.out.stored k _).1, ownsRow_setCell_other HB.out (by simpa [Value.ownBlock] using hne.symm) _, ?_, Hbel.out.setCell hga _⟩
              intro j hj
              rw [rd_set (by omega)]
              split
              · rename_i e; rw [← e, hv]
              · exact Hl.out j (by omega)
            case measure => simp [intOf]; omega
          · by_cases h3 : k < 280
            · have hv : fixAt k = 7 := by unfold fixAt; rw [if_neg h1, if_neg h2, if_pos h3]
              go_wp2
              go_roundw
              case rel =>
                refine ⟨k + 1, l.set k 7, by omega, by go_num, by rw [ints_set]; exact (HA.out.stored k _).1, ownsRow_setCell_other HB.out (by simpa [Value.ownBlock] using hne.symm) _, ?_, Hbel.out.setCell hga _⟩
                intro j hj
                rw [rd_set (by omega)]
                split
                · rename_i e; rw [← e, hv]
                · exact Hl.out j (by omega)
              case measure => simp [intOf]; omega
            · have hv : fixAt k = 8 := by unfold fixAt; rw [if_neg h1, if_neg h2, if_neg h3]
              go_wp2
              go_roundw
              case rel =>
                refine ⟨k + 1, l.set k 8, by omega, by go_num, by rw [ints_set]; exact (HA.out.stored k _).1, ownsRow_setCell_other HB.out (by simpa [Value.ownBlock] using hne.symm) _, ?_, Hbel.out.setCell hga _⟩
                intro j hj
                rw [rd_set (by omega)]
                split
                · rename_i e; rw [← e, hv]
                · exact Hl.out j (by omega)
              case measure => simp [intOf]; omega
      · obtain rfl : k = 288 := by omega
        have e : l = fixA := ext_rd (by rw [hll, fixA_length]) (fun j hj => by rw [Hl.out j (by omega), rd_fixA j (by omega)])
        subst e
        go_wp2
        obtain ⟨wo, hwo⟩ : ∃ wo : World, wo = wr := ⟨_, rfl⟩
        subst hwo
        go_loopw [37] (fun i wr => ∃ (k : Nat) (l : List Int), k ≤ 32 ∧ i = .int .i64 k ∧ wr.ownsRow w.heap.size 3 1 (.slice (some ⟨ga, 0, none⟩) 288 288) 288 (ints .i64 fixA) ∧ wr.ownsRow w.heap.size 3 1 (.slice (some ⟨gb, 0, none⟩) 32 32) 32 (ints .i64 l) ∧ Hid (∀ j, j < k → rd l j = 5) ∧ Below w.heap.size w wr) (fun i _ => 32 - (intOf i).toNat)
        case atStart => exact ⟨0, _, by omega, rfl, HA.out, HB.out, (fun j hj => by omega), Hbel.out⟩
        case round =>
          obtain ⟨k, l, hk, rfl, hA, hB, Hl, hbel⟩ := hrel
          have hgb := (hB.lt gb rfl).1
          have hll : l.length = 32 := by have := hB.1; simpa [ints] using this
          have HA := Lib.hid hA
          have HB := Lib.hid hB
          have Hbel := Lib.hid hbel
          clear hA hB hbel
          by_cases hlt : k < 32
          · have hf := HB.out.frozenAt k
            have hcell := HB.out.cellAt k (by omega)
            rw [ints_get (by omega)] at hcell
            go_wp2
            go_roundw
            case rel =>
              refine ⟨k + 1, l.set k 5, by omega, by go_num, ownsRow_setCell_other HA.out (by simpa [Value.ownBlock] using hne) _, by rw [ints_set]; exact (HB.out.stored k _).1, ?_, Hbel.out.setCell hgb _⟩
              intro j hj
              rw [rd_set (by omega)]
              split
              · rfl
              · exact Hl.out j (by omega)
            case measure => simp [intOf]; omega
          · obtain rfl : k = 32 := by omega
            have e : l = fixB := ext_rd (by rw [hll]; rfl) (fun j hj => by rw [Hl.out j (by omega), rd_fixB j (by omega)])
            subst e
            go_wp2
            refine bodyPost_ret (v := .tuple #[.slice (some ⟨ga, 0, none⟩) 288 288, .slice (some ⟨gb, 0, none⟩) 32 32]) (by simp [results, Tryd.results53, go_sem]) rfl ⟨_, _, rfl, HA.out, HB.out, Hbel.out⟩
end Go.Proofs.YtkjoncllnlmdgaaDoor
/-
  The walks of the reference's tables (inkwellref07): Lengths, Distances, Of.
-/
namespace Go.Proofs.YtkjoncllnlmdgaaDoor
open Go.RowKit

/-- Rows as cells. -/
def rowCells (rows : List (Int × Int)) : List Value := rows.flatMap fun r => [.int .i64 r.1, .int .i64 r.2]
theorem rowCells_length (rows : List (Int × Int)) : (rowCells rows).length = rows.length * 2 := by
  induction rows with
  | nil => rfl
  | cons r rows ih => simp [rowCells] at *; omega
theorem rowCells_append (r s : List (Int × Int)) : rowCells (r ++ s) = rowCells r ++ rowCells s := by simp [rowCells]
theorem elRow : ElT Tryd.prog 130 134 (.agg #[.int .i64 0, .int .i64 0]) 2 16 := ⟨Tryd.underlying130, by kernel_rfl, rfl, by decide, by decide⟩

theorem take_rows (rows : List (Int × Int)) (k : Nat) (h : k < rows.length) : rowCells (rows.take (k + 1)) = rowCells (rows.take k) ++ [.int .i64 (rowL rows k), .int .i64 (rowB rows k)] := by
  rw [List.take_succ_eq_append_getElem h, rowCells_append]
  simp [rowCells, rowL, rowB, List.getD_eq_getElem?_getD, List.getElem?_eq_getElem h]
theorem lens_bits : ∀ k : Nat, k < 28 → (if (k : Int) / 4 - 1 < 0 then 0 else (k : Int) / 4 - 1) = rowB lens k := by decide
theorem lens_next : ∀ k : Nat, k < 28 → k + 1 < 28 → wrap64 (rowL lens k + wrap64 (2 ^ (if (k : Int) / 4 - 1 < 0 then 0 else (k : Int) / 4 - 1).toNat)) = rowL lens (k + 1) := by decide +kernel
theorem dists_bits : ∀ k : Nat, k < 30 → (if (k : Int) / 2 - 1 < 0 then 0 else (k : Int) / 2 - 1) = rowB dists k := by decide
theorem dists_next : ∀ k : Nat, k < 30 → k + 1 < 30 → wrap64 (rowL dists k + wrap64 (2 ^ (if (k : Int) / 2 - 1 < 0 then 0 else (k : Int) / 2 - 1).toNat)) = rowL dists (k + 1) := by decide +kernel

set_option maxHeartbeats 400000 in
set_option maxRecDepth 100000 in
theorem rLengths_calls (w : World) :
    Calls Tryd.prog 86 #[] w fun e w' => ∃ v, e = .returned v ∧ w'.ownsRow w.heap.size 134 2 v 29 (rowCells lens) ∧ Below w.heap.size w w' := by
  go_enter Tryd.func86, Tryd.ntmps86
  go_wp2
  go_loopw [1, 2, 3] (fun v l i wr => ∃ k : Nat, k ≤ 28 ∧ i = .int .i64 k ∧ (k < 28 → l = .int .i64 (rowL lens k)) ∧ wr.ownsRow w.heap.size 134 2 v k (rowCells (lens.take k)) ∧ Below w.heap.size w wr) (fun _ _ i _ => 28 - (intOf i).toNat)
  case atStart => exact ⟨0, by omega, rfl, fun _ => rfl, World.ownsRow_nil _ _ _ _, Below.refl _ _⟩
  case round =>
    obtain ⟨k, hk, rfl, hl, hown, hbel⟩ := hrel
    have Hown := Lib.hid hown
    have Hbel := Lib.hid hbel
    have hsz := hbel.size
    clear hown hbel
    by_cases hlt : k < 28
    · obtain rfl := hl hlt
      have hr := lens_range k (by omega)
      clear hl
      go_wp2_with (at_builtin; refine wpList_app1 rfl _ _ rfl elRow Hown.out rfl rfl rfl rfl (by omega) (by omega) ?_; intro v' w' hown' hbel' _)
      go_roundw
      case rel =>
        rw [lens_bits k hlt] at hown'
        exact ⟨k + 1, by omega, by go_num, fun h => by rw [lens_next k hlt h], by rw [take_rows lens k (by rw [lens_length]; omega)]; exact hown', Hbel.out.trans hbel'⟩
      case measure => simp [intOf]; omega
    · obtain rfl : k = 28 := by omega
      clear hl
      go_wp2_with (at_builtin; refine wpList_app1 rfl _ _ rfl elRow Hown.out rfl rfl rfl rfl (by omega) (by omega) ?_; intro v' w' hown' hbel' _)
      go_ret
      exact ⟨v', rfl, hown', Hbel.out.trans hbel'⟩

set_option maxHeartbeats 400000 in
set_option maxRecDepth 100000 in
theorem rDistances_calls (w : World) :
    Calls Tryd.prog 87 #[] w fun e w' => ∃ v, e = .returned v ∧ w'.ownsRow w.heap.size 134 2 v 30 (rowCells dists) ∧ Below w.heap.size w w' := by
  go_enter Tryd.func87, Tryd.ntmps87
  go_wp2
  go_loopw [1, 2, 3] (fun v l i wr => ∃ k : Nat, k ≤ 30 ∧ i = .int .i64 k ∧ (k < 30 → l = .int .i64 (rowL dists k)) ∧ wr.ownsRow w.heap.size 134 2 v k (rowCells (dists.take k)) ∧ Below w.heap.size w wr) (fun _ _ i _ => 30 - (intOf i).toNat)
  case atStart => exact ⟨0, by omega, rfl, fun _ => rfl, World.ownsRow_nil _ _ _ _, Below.refl _ _⟩
  case round =>
    obtain ⟨k, hk, rfl, hl, hown, hbel⟩ := hrel
    have Hown := Lib.hid hown
    have Hbel := Lib.hid hbel
    have hsz := hbel.size
    clear hown hbel
    by_cases hlt : k < 30
    · obtain rfl := hl hlt
      have hr := dists_range k (by omega)
      clear hl
      go_wp2_with (at_builtin; refine wpList_app1 rfl _ _ rfl elRow Hown.out rfl rfl rfl rfl (by omega) (by omega) ?_; intro v' w' hown' hbel' _)
      go_roundw
      case rel =>
        rw [dists_bits k hlt] at hown'
        exact ⟨k + 1, by omega, by go_num, fun h => by rw [dists_next k hlt h], by rw [take_rows dists k (by rw [dists_length]; omega)]; exact hown', Hbel.out.trans hbel'⟩
      case measure => simp [intOf]; omega
    · obtain rfl : k = 30 := by omega
      clear hl
      go_wp2_with fail
      go_ret
      exact ⟨_, rfl, Hown.out, Hbel.out⟩

theorem rowsAt_own {w : World} {base n : Nat} {e : TypeId} {v : Value} {rows : List (Int × Int)} (h : w.ownsRow base e 2 v n (rowCells rows)) (h0 : 0 < n) : ∃ g c, v = .slice (some ⟨g, 0, none⟩) n c ∧ n ≤ c ∧ RowsAt w g rows := by
  obtain ⟨g, c, hv, _, _, hc, hcell, _⟩ := own_form h h0
  refine ⟨g, c, hv, hc, fun j hj => ?_⟩
  have key : ∀ (l : List (Int × Int)) (j : Nat), j < l.length → (rowCells l)[j * 2]? = some (.int .i64 (rowL l j)) ∧ (rowCells l)[j * 2 + 1]? = some (.int .i64 (rowB l j)) := by
    intro l
    induction l with
    | nil => intro j hj; simp at hj
    | cons r l ih =>
      intro j hj
      cases j with
      | zero => exact ⟨rfl, rfl⟩
      | succ j =>
        have := ih j (by simpa using hj)
        have e1 : (rowCells (r :: l))[(j + 1) * 2]? = (rowCells l)[j * 2]? := by rw [show (j + 1) * 2 = j * 2 + 1 + 1 from by omega]; rfl
        have e2 : (rowCells (r :: l))[(j + 1) * 2 + 1]? = (rowCells l)[j * 2 + 1]? := by rw [show (j + 1) * 2 + 1 = j * 2 + 1 + 1 + 1 from by omega]; rfl
        rw [e1, e2]
        exact this
  obtain ⟨k1, k2⟩ := key rows j hj
  exact ⟨hcell _ _ k1, hcell _ _ k2⟩

set_option maxHeartbeats 400000 in
theorem rOf_calls (n : Int) (rows : List (Int × Int)) (g len c : Nat) (w : World) (hlen : rows.length = len) (hn : 0 ≤ n) (hn2 : n ≤ 40000) (hl : 0 < len) (hl2 : len ≤ 100)
   (hr : ∀ j, j < len → 0 ≤ rowL rows j ∧ rowL rows j ≤ 40000) (hc : RowsAt w g rows) :
    Calls Tryd.prog 89 #[.int .i64 n, .slice (some ⟨g, 0, none⟩) len c] w fun e w' =>
      e = .returned (.tuple #[.int .i64 (lastLe rows n len), .int .i64 (symX rows n)]) ∧ Below w.heap.size w w' := by
  have Hc := Lib.hid hc
  have Hr := Lib.hid hr
  have Hlen := Lib.hid hlen
  clear hc hr hlen
  go_enter Tryd.func89, Tryd.ntmps89
  go_wp2
  go_loop [6, 7] (fun at_ i => ∃ k m : Nat, k ≤ len ∧ i = .int .i64 k ∧ at_ = .int .i64 m ∧ m < len ∧ Hid (m = lastLe rows n k)) (fun _ i => len - (intOf i).toNat)
  case atStart => exact ⟨0, 0, by omega, rfl, rfl, hl, rfl⟩
  case round =>
    obtain ⟨k, m, hk, rfl, rfl, hm, Hm⟩ := hrel
    by_cases hlt : k < len
    · have hz := (Hc.out k (Hlen.out ▸ hlt)).1
      have hb := Hr.out k hlt
      go_wp2
      all_goals
        go_round
        case rel =>
          first
          | exact ⟨k + 1, k, by omega, by go_num, by go_num, hlt, (lastLe_hit rows n k (by assumption)).symm⟩
          | exact ⟨k + 1, m, by omega, by go_num, rfl, hm, Hm.out.trans (lastLe_miss rows n k (by assumption)).symm⟩
        case measure => simp [intOf]; omega
    · have hk2 : k = len := by omega
      have hz := (Hc.out m (Hlen.out ▸ hm)).1
      have hb := Hr.out m hm
      have Hk := Lib.hid hk2
      have hk3 : len ≤ k := by omega
      clear hk2
      go_wp2
      go_region
      go_wp2
      go_ret2
      refine ⟨?_, (Below.refl _ _).drew⟩
      have e := Hm.out
      rw [Hk.out] at e
      unfold symX
      rw [Hlen.out, ← e]
      rfl
#print axioms rOf_calls
end Go.Proofs.YtkjoncllnlmdgaaDoor
