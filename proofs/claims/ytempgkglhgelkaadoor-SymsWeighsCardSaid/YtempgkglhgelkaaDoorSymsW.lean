/-
  The walks of package syms: of, Length, Distance, Literal, LengthOf, DistanceOf.
-/
import Derived.Test.YtempgkglhgelkaaDoorB
import Derived.Test.YtempgkglhgelkaaDoorSymsP
import Derived.WalkKit
import Derived.WalkSpells
import Derived.WalkLawsBesides
import Derived.Deep.QuietTactic
import Derived.BigQuiet
import Derived.Lib.Hide
namespace Go.Proofs.YtempgkglhgelkaaDoor
open Go.RowKit

/-- The table's cells: two a row. -/
def RowsAt (w : World) (g : Nat) (rows : List (Int × Int)) : Prop :=
  ∀ j, j < rows.length → w.cell? ⟨g, j * 2, none⟩ = some (.int .i64 (rowL rows j)) ∧ w.cell? ⟨g, j * 2 + 1, none⟩ = some (.int .i64 (rowB rows j))
theorem RowsAt.below {w w1 : World} {g : Nat} {rows : List (Int × Int)} (h : RowsAt w g rows) (hb : Below w.heap.size w w1) : RowsAt w1 g rows :=
  fun j hj => ⟨(hb.cell (World.block_lt_of_cell? w _ (h j hj).1)).trans (h j hj).1, (hb.cell (World.block_lt_of_cell? w _ (h j hj).2)).trans (h j hj).2⟩

set_option maxHeartbeats 400000 in
theorem of_calls (n first : Int) (rows : List (Int × Int)) (g len : Nat) (w : World) (hlen : rows.length = len) (hn : 0 ≤ n) (hn2 : n ≤ 40000) (hf : 0 ≤ first) (hf2 : first ≤ 1000) (hl : 0 < len) (hl2 : len ≤ 100)
   (hr : ∀ j, j < len → 0 ≤ rowL rows j ∧ rowL rows j ≤ 40000)
   (hr0 : rowL rows 0 ≤ n) (hc : RowsAt w g rows) :
    Calls Tryd.prog 38 #[.int .i64 n, .int .i64 first, .slice (some ⟨g, 0, none⟩) len len] w fun e w' =>
      e = .returned (.agg #[.int .i64 (symS first rows n), .int .i64 (symB rows n), .int .u64 (symX rows n)]) ∧ Below w.heap.size w w' := by
  have hc0 := hc.below ((Below.refl w.heap.size w).alloc (Nat.le_refl _) (Obj.cells #[Value.int IntKind.i64 0, Value.int IntKind.i64 0, Value.int IntKind.u64 0] 26))
  have Hc := Lib.hid hc0
  have Hr := Lib.hid hr
  have Hr0 := Lib.hid hr0
  have Hlen := Lib.hid hlen
  clear hc hc0 hr hr0 hlen
  go_enter Tryd.func38, Tryd.ntmps38
  go_wp2
  go_loop [7] (fun i => ∃ k : Nat, k < len ∧ i = .int .i64 k ∧ Hid (lastLe rows n len = lastLe rows n (k + 1))) (fun i => (intOf i).toNat)
  case atStart => exact ⟨len - 1, by omega, by congr 1; omega, by show _ = _; congr 1; omega⟩
  case round =>
    obtain ⟨k, hk, rfl, hall⟩ := hrel
    have hz := (Hc.out k (Hlen.out ▸ hk)).1
    have hz2 := (Hc.out k (Hlen.out ▸ hk)).2
    have hb := Hr.out k hk
    go_wp2
    · go_round
      case rel =>
        have h1 : 0 < k := by assumption
        have h2 : n < rowL rows k := by assumption
        refine ⟨k - 1, by omega, by go_num, ?_⟩
        have h3 := hall.out
        rw [lastLe_miss rows n k h2] at h3
        rw [show k - 1 + 1 = k from by omega]
        exact h3
      case measure => simp [intOf]; omega
    all_goals
      have Hk : Hid (lastLe rows n len = k) := by
        first
        | exact (hall.out.trans (lastLe_hit rows n k (by assumption)))
        | (obtain rfl : k = 0 := by omega
           exact hall.out.trans (lastLe_one rows n))
      have h2 : rowL rows k ≤ n := by
        first
        | assumption
        | (obtain rfl : k = 0 := by omega
           exact Hr0.out)
      clear hall
      go_region
      go_wp2
      refine bodyPost_ret (v := .agg #[.int .i64 (first + k), .int .i64 (rowB rows k), .int .u64 (n - rowL rows k)]) (by simp [results, Tryd.results38, go_sem]) rfl ⟨?_, ((Below.refl _ _).alloc (Nat.le_refl _) _).drew⟩
      have hk3 := Hk.out
      unfold symS symB symX
      rw [Hlen.out, hk3]

set_option maxHeartbeats 400000 in
theorem Length_calls (n : Int) (w : World) (hn : -9223372036854775808 ≤ n) (hn2 : n ≤ 9223372036854775807) (hc : RowsAt w 0 lens) :
    Calls Tryd.prog 12 #[.int .i64 n] w fun e w' =>
      e = .returned (.agg #[.int .i64 (symS 257 lens (clampL n)), .int .i64 (symB lens (clampL n)), .int .u64 (symX lens (clampL n))]) ∧ Below w.heap.size w w' := by
  have hc0 := hc.below ((Below.refl w.heap.size w).alloc (Nat.le_refl _) (Obj.cells #[Value.int IntKind.i64 0, Value.int IntKind.i64 0, Value.int IntKind.u64 0] 26))
  have Hc := Lib.hid hc0
  clear hc hc0
  go_enter Tryd.func12, Tryd.ntmps12
  go_wp2_with (go_at_call 38; refine (of_calls _ 257 lens _ 29 _ rfl (by omega) (by omega) (by omega) (by omega) (by omega) (by omega) (fun j hj => by have := lens_range j hj; omega) (by show (3 : Int) ≤ _; omega) Hc.out).mono ?_; rintro e w' ⟨rfl, hb⟩; obtain ⟨c0, f0⟩ := laid_kept hb 0 _ rfl; obtain ⟨c1, f1⟩ := laid_kept hb 1 _ rfl; obtain ⟨c2, f2⟩ := laid_kept hb 2 _ rfl)
  all_goals
    have h5 : Below w.heap.size w w' := ((Below.refl _ _).alloc (Nat.le_refl _) _).trans (hb.mono (by simp))
    refine bodyPost_ret (v := .agg #[.int .i64 (symS 257 lens (clampL n)), .int .i64 (symB lens (clampL n)), .int .u64 (symX lens (clampL n))]) ?_ rfl ⟨rfl, ((h5.setCell (Nat.le_refl _) _).setCell (Nat.le_refl _) _).setCell (Nat.le_refl _) _⟩
    first
    | rw [clampL_lo (by omega)]
    | rw [clampL_hi (by omega)]
    | rw [clampL_in (by omega) (by omega)]
    simp [results, Tryd.results12, go_sem, c0, c1, c2]

set_option maxHeartbeats 400000 in
theorem Distance_calls (n : Int) (w : World) (hn : -9223372036854775808 ≤ n) (hn2 : n ≤ 9223372036854775807) (hc : RowsAt w 1 dists) :
    Calls Tryd.prog 13 #[.int .i64 n] w fun e w' =>
      e = .returned (.agg #[.int .i64 (symS 0 dists (clampD n)), .int .i64 (symB dists (clampD n)), .int .u64 (symX dists (clampD n))]) ∧ Below w.heap.size w w' := by
  have hc0 := hc.below ((Below.refl w.heap.size w).alloc (Nat.le_refl _) (Obj.cells #[Value.int IntKind.i64 0, Value.int IntKind.i64 0, Value.int IntKind.u64 0] 26))
  have Hc := Lib.hid hc0
  clear hc hc0
  go_enter Tryd.func13, Tryd.ntmps13
  go_wp2_with (go_at_call 38; refine (of_calls _ 0 dists _ 30 _ rfl (by omega) (by omega) (by omega) (by omega) (by omega) (by omega) (fun j hj => by have := dists_range j hj; omega) (by show (1 : Int) ≤ _; omega) Hc.out).mono ?_; rintro e w' ⟨rfl, hb⟩; obtain ⟨c0, f0⟩ := laid_kept hb 0 _ rfl; obtain ⟨c1, f1⟩ := laid_kept hb 1 _ rfl; obtain ⟨c2, f2⟩ := laid_kept hb 2 _ rfl)
  all_goals
    have h5 : Below w.heap.size w w' := ((Below.refl _ _).alloc (Nat.le_refl _) _).trans (hb.mono (by simp))
    refine bodyPost_ret (v := .agg #[.int .i64 (symS 0 dists (clampD n)), .int .i64 (symB dists (clampD n)), .int .u64 (symX dists (clampD n))]) ?_ rfl ⟨rfl, ((h5.setCell (Nat.le_refl _) _).setCell (Nat.le_refl _) _).setCell (Nat.le_refl _) _⟩
    first
    | rw [clampD_lo (by omega)]
    | rw [clampD_hi (by omega)]
    | rw [clampD_in (by omega) (by omega)]
    simp [results, Tryd.results13, go_sem, c0, c1, c2]

set_option maxHeartbeats 400000 in
theorem Literal_calls (b : Int) (w : World) (h0 : 0 ≤ b) (h1 : b ≤ 255) :
    Calls Tryd.prog 17 #[.int .u8 b] w fun e w' =>
      e = .returned (.agg #[.int .i64 b, .int .i64 0, .int .u64 0]) ∧ Below w.heap.size w w' := by
  go_enter Tryd.func17, Tryd.ntmps17
  go_wp2
  exact bodyPost_ret (v := .agg #[.int .i64 b, .int .i64 0, .int .u64 0]) (by simp [results, Tryd.results17, go_sem]) rfl ⟨rfl, (Below.refl _ _).alloc (Nat.le_refl _) _⟩

/-- What 'LengthOf', 'DistanceOf' answer. -/
def lenOfE (s : Int) : Ending := if 257 ≤ s ∧ s ≤ 285 then .returned (.tuple #[.int .i64 (rowL lens (s - 257).toNat), .int .i64 (rowB lens (s - 257).toNat), .bool true]) else .returned (.tuple #[.int .i64 0, .int .i64 0, .bool false])
def distOfE (s : Int) : Ending := if 0 ≤ s ∧ s ≤ 29 then .returned (.tuple #[.int .i64 (rowL dists s.toNat), .int .i64 (rowB dists s.toNat), .bool true]) else .returned (.tuple #[.int .i64 0, .int .i64 0, .bool false])

set_option maxHeartbeats 400000 in
theorem LengthOf_calls (s : Int) (w : World) (hn : -9223372036854775808 ≤ s) (hn2 : s ≤ 9223372036854775807) (hc : RowsAt w 0 lens) :
    Calls Tryd.prog 18 #[.int .i64 s] w fun e w' => e = lenOfE s ∧ Below w.heap.size w w' := by
  have Hc := Lib.hid hc
  clear hc
  by_cases h : 257 ≤ s ∧ s ≤ 285
  · obtain ⟨ha, hb⟩ := h
    have he : lenOfE s = .returned (.tuple #[.int .i64 (rowL lens (s - 257).toNat), .int .i64 (rowB lens (s - 257).toNat), .bool true]) := if_pos ⟨ha, hb⟩
    rw [he]
    clear he
    obtain ⟨k, rfl⟩ : ∃ k : Nat, s = 257 + k := ⟨(s - 257).toNat, by omega⟩
    have hz : w.cell? ⟨0, (257 + k - 256 - 1) * 2, none⟩ = some (.int .i64 (rowL lens k)) := by rw [show 257 + k - 256 - 1 = k from by omega]; exact (Hc.out k (by rw [lens_length]; omega)).1
    have hz2 : w.cell? ⟨0, (257 + k - 256 - 1) * 2 + 1, none⟩ = some (.int .i64 (rowB lens k)) := by rw [show 257 + k - 256 - 1 = k from by omega]; exact (Hc.out k (by rw [lens_length]; omega)).2
    rw [show ((257 : Int) + k - 257).toNat = k from by omega]
    go_enter Tryd.func18, Tryd.ntmps18
    go_wp2
    go_region
    go_wp2
    go_ret3
    exact ⟨rfl, ((Below.refl _ _).alloc (Nat.le_refl _) _).drew⟩
  · rw [show lenOfE s = .returned (.tuple #[.int .i64 0, .int .i64 0, .bool false]) from if_neg h]
    by_cases h2 : s ≤ 256
    · go_enter Tryd.func18, Tryd.ntmps18
      go_wp2
      go_ret3
      exact ⟨rfl, Below.refl _ _⟩
    · have h3 : 286 ≤ s := by omega
      clear h
      go_enter Tryd.func18, Tryd.ntmps18
      go_wp2
      go_ret3
      exact ⟨rfl, Below.refl _ _⟩

set_option maxHeartbeats 400000 in
theorem DistanceOf_calls (s : Int) (w : World) (hn : -9223372036854775808 ≤ s) (hn2 : s ≤ 9223372036854775807) (hc : RowsAt w 1 dists) :
    Calls Tryd.prog 19 #[.int .i64 s] w fun e w' => e = distOfE s ∧ Below w.heap.size w w' := by
  have Hc := Lib.hid hc
  clear hc
  by_cases h : 0 ≤ s ∧ s ≤ 29
  · obtain ⟨ha, hb⟩ := h
    have he : distOfE s = .returned (.tuple #[.int .i64 (rowL dists s.toNat), .int .i64 (rowB dists s.toNat), .bool true]) := if_pos ⟨ha, hb⟩
    rw [he]
    clear he
    obtain ⟨k, rfl⟩ : ∃ k : Nat, s = k := ⟨s.toNat, by omega⟩
    have hz := (Hc.out k (by rw [dists_length]; omega)).1
    have hz2 := (Hc.out k (by rw [dists_length]; omega)).2
    rw [Int.toNat_natCast]
    go_enter Tryd.func19, Tryd.ntmps19
    go_wp2
    go_region
    go_wp2
    go_ret3
    exact ⟨rfl, (Below.refl _ _).drew⟩
  · rw [show distOfE s = .returned (.tuple #[.int .i64 0, .int .i64 0, .bool false]) from if_neg h]
    by_cases h2 : s < 0
    · go_enter Tryd.func19, Tryd.ntmps19
      go_wp2
      go_ret3
      exact ⟨rfl, Below.refl _ _⟩
    · have h3 : 30 ≤ s := by omega
      clear h
      go_enter Tryd.func19, Tryd.ntmps19
      go_wp2
      go_ret3
      exact ⟨rfl, Below.refl _ _⟩
end Go.Proofs.YtempgkglhgelkaaDoor
