/-
  Texts joined into one file: SymsP, SymsW, Tabs, FixW, Ref07W.
-/
import Derived.WalkKit
import Derived.Test.YtendohnkhbgfbaaDoorJBytZ1
import Derived.WalkSpells
import Derived.WalkLawsBesides
import Derived.Deep.QuietTactic
import Derived.BigQuiet
import Derived.Lib.Hide
import Derived.Test.YtendohnkhbgfbaaDoorJBytZ2
import Derived.OneCell
import Derived.Deep.RegionWith
import Derived.Deep.Cut
import Derived.Deep.CutRange
import Derived.Deep.CutBlock
/-
  Plain facts about the tables of symbols (no program): the rows, the search from behind, the search from ahead.
-/
namespace Go.Proofs.YtendohnkhbgfbaaDoor

def rowL (rows : List (Int × Int)) (k : Nat) : Int := (rows.getD k (0, 0)).1
def rowB (rows : List (Int × Int)) (k : Nat) : Int := (rows.getD k (0, 0)).2
/-- The last of the first k rows that isn't above n; 0, if there is none. -/
def lastLe (rows : List (Int × Int)) (n : Int) : Nat → Nat
  | 0 => 0
  | k + 1 => if rowL rows k ≤ n then k else lastLe rows n k

theorem lastLe_lt (rows : List (Int × Int)) (n : Int) (k : Nat) (h : 0 < k) : lastLe rows n k < k := by
  induction k with
  | zero => omega
  | succ k ih =>
    simp only [lastLe]; split
    · omega
    · rcases Nat.eq_zero_or_pos k with rfl | hk
      · simp [lastLe]
      · have := ih hk; omega

theorem lastLe_hit (rows : List (Int × Int)) (n : Int) (k : Nat) (h : rowL rows k ≤ n) : lastLe rows n (k + 1) = k := by simp [lastLe, h]
theorem lastLe_miss (rows : List (Int × Int)) (n : Int) (k : Nat) (h : n < rowL rows k) : lastLe rows n (k + 1) = lastLe rows n k := by
  simp only [lastLe]; rw [if_neg (by omega)]
theorem lastLe_one (rows : List (Int × Int)) (n : Int) : lastLe rows n 1 = 0 := by simp [lastLe]

def lens : List (Int × Int) := [(3, 0), (4, 0), (5, 0), (6, 0), (7, 0), (8, 0), (9, 0), (10, 0), (11, 1), (13, 1), (15, 1), (17, 1), (19, 2), (23, 2), (27, 2), (31, 2), (35, 3), (43, 3), (51, 3), (59, 3), (67, 4), (83, 4), (99, 4), (115, 4), (131, 5), (163, 5), (195, 5), (227, 5), (258, 0)]
def dists : List (Int × Int) := [(1, 0), (2, 0), (3, 0), (4, 0), (5, 1), (7, 1), (9, 2), (13, 2), (17, 3), (25, 3), (33, 4), (49, 4), (65, 5), (97, 5), (129, 6), (193, 6), (257, 7), (385, 7), (513, 8), (769, 8), (1025, 9), (1537, 9), (2049, 10), (3073, 10), (4097, 11), (6145, 11), (8193, 12), (12289, 12), (16385, 13), (24577, 13)]
theorem lens_length : lens.length = 29 := rfl
theorem dists_length : dists.length = 30 := rfl

/-- The symbol's number, its bits, and what follows, of n. -/
def symS (first : Int) (rows : List (Int × Int)) (n : Int) : Int := first + (lastLe rows n rows.length : Nat)
def symB (rows : List (Int × Int)) (n : Int) : Int := rowB rows (lastLe rows n rows.length)
def symX (rows : List (Int × Int)) (n : Int) : Int := n - rowL rows (lastLe rows n rows.length)
def clampL (n : Int) : Int := if n < 3 then 3 else if 258 < n then 258 else n
def clampD (n : Int) : Int := if n < 1 then 1 else if 32768 < n then 32768 else n

theorem all_lt {p : Nat → Bool} {n : Nat} (h : (List.range n).all p = true) (k : Nat) (hk : k < n) : p k = true := List.all_eq_true.1 h k (List.mem_range.2 hk)

theorem lens_range (j : Nat) (h : j < 29) : 3 ≤ rowL lens j ∧ rowL lens j ≤ 258 ∧ 0 ≤ rowB lens j ∧ rowB lens j ≤ 5 := by
  have := all_lt (p := fun j => decide (3 ≤ rowL lens j ∧ rowL lens j ≤ 258 ∧ 0 ≤ rowB lens j ∧ rowB lens j ≤ 5)) (n := 29) (by decide) j h
  simpa using this
theorem dists_range (j : Nat) (h : j < 30) : 1 ≤ rowL dists j ∧ rowL dists j ≤ 24577 ∧ 0 ≤ rowB dists j ∧ rowB dists j ≤ 13 := by
  have := all_lt (p := fun j => decide (1 ≤ rowL dists j ∧ rowL dists j ≤ 24577 ∧ 0 ≤ rowB dists j ∧ rowB dists j ≤ 13)) (n := 30) (by decide) j h
  simpa using this

/-- Where the first row isn't above n, what is found isn't. -/
theorem lastLe_le (rows : List (Int × Int)) (n : Int) (k : Nat) (h0 : rowL rows 0 ≤ n) : rowL rows (lastLe rows n k) ≤ n := by
  induction k with
  | zero => simpa [lastLe] using h0
  | succ k ih => simp only [lastLe]; split <;> assumption

theorem clampL_range (n : Int) : 3 ≤ clampL n ∧ clampL n ≤ 258 := by unfold clampL; split <;> (try split) <;> omega
theorem clampD_range (n : Int) : 1 ≤ clampD n ∧ clampD n ≤ 32768 := by unfold clampD; split <;> (try split) <;> omega

theorem lastLe_mono (rows : List (Int × Int)) (n m : Int) (h : n ≤ m) (k : Nat) : lastLe rows n k ≤ lastLe rows m k := by
  induction k with
  | zero => simp [lastLe]
  | succ k ih =>
    have h0 : lastLe rows n k ≤ k := by
      rcases Nat.eq_zero_or_pos k with rfl | hk
      · simp [lastLe]
      · have := lastLe_lt rows n k hk; omega
    simp only [lastLe]
    split
    · rw [if_pos (by omega)]; exact Nat.le_refl _
    · split
      · exact h0
      · exact ih
/-- A greater number has no lesser symbol; of one symbol it has what follows more. -/
theorem sym_rise (first : Int) (rows : List (Int × Int)) (n m : Int) (h : n ≤ m) : symS first rows n < symS first rows m ∨ symS first rows n = symS first rows m ∧ symX rows n ≤ symX rows m := by
  have h1 := lastLe_mono rows n m h rows.length
  unfold symS symX
  rcases Nat.lt_or_ge (lastLe rows n rows.length) (lastLe rows m rows.length) with h2 | h2
  · left; omega
  · right
    have h3 : lastLe rows n rows.length = lastLe rows m rows.length := by omega
    rw [h3]
    exact ⟨rfl, by omega⟩
theorem clampL_mono {n m : Int} (h : n ≤ m) : clampL n ≤ clampL m := by unfold clampL; split <;> split <;> (try split) <;> (try split) <;> omega
theorem clampD_mono {n m : Int} (h : n ≤ m) : clampD n ≤ clampD m := by unfold clampD; split <;> split <;> (try split) <;> (try split) <;> omega
theorem clampL_lo {n : Int} (h : n < 3) : clampL n = 3 := if_pos h
theorem clampL_hi {n : Int} (h : 258 < n) : clampL n = 258 := by unfold clampL; rw [if_neg (by omega), if_pos h]
theorem clampL_in {n : Int} (h : 3 ≤ n) (h2 : n ≤ 258) : clampL n = n := by unfold clampL; rw [if_neg (by omega), if_neg (by omega)]
theorem clampD_lo {n : Int} (h : n < 1) : clampD n = 1 := if_pos h
theorem clampD_hi {n : Int} (h : 32768 < n) : clampD n = 32768 := by unfold clampD; rw [if_neg (by omega), if_pos h]
theorem clampD_in {n : Int} (h : 1 ≤ n) (h2 : n ≤ 32768) : clampD n = n := by unfold clampD; rw [if_neg (by omega), if_neg (by omega)]
theorem symL_range (n : Int) (h : 3 ≤ n) (h2 : n ≤ 258) : 257 ≤ symS 257 lens n ∧ symS 257 lens n ≤ 285 ∧ 0 ≤ symB lens n ∧ symB lens n ≤ 5 ∧ 0 ≤ symX lens n ∧ symX lens n ≤ 255 := by
  have h1 := lastLe_lt lens n lens.length (by decide)
  have h3 := lastLe_le lens n lens.length (by show (3 : Int) ≤ n; exact h)
  have h4 := lens_range (lastLe lens n lens.length) h1
  have h5 : lens.length = 29 := rfl
  unfold symS symB symX
  omega
theorem symD_range (n : Int) (h : 1 ≤ n) (h2 : n ≤ 32768) : 0 ≤ symS 0 dists n ∧ symS 0 dists n ≤ 29 ∧ 0 ≤ symB dists n ∧ symB dists n ≤ 13 ∧ 0 ≤ symX dists n ∧ symX dists n ≤ 32767 := by
  have h1 := lastLe_lt dists n dists.length (by decide)
  have h3 := lastLe_le dists n dists.length (by show (1 : Int) ≤ n; exact h)
  have h4 := dists_range (lastLe dists n dists.length) h1
  have h5 : dists.length = 30 := rfl
  unfold symS symB symX
  omega
/-- Behind what is found every row is above n. -/
theorem lastLe_gt (rows : List (Int × Int)) (n : Int) (k j : Nat) (h : lastLe rows n k < j) (hj : j < k) : n < rowL rows j := by
  induction k with
  | zero => omega
  | succ k ih =>
    simp only [lastLe] at h
    split at h
    · omega
    · rename_i hn
      rcases Nat.lt_or_ge j k with h2 | h2
      · exact ih h h2
      · obtain rfl : j = k := by omega
        omega
theorem lens_step : ∀ k : Nat, k < 29 → (k + 1 < 29 → rowL lens (k + 1) ≤ rowL lens k + 2 ^ (rowB lens k).toNat) ∧ (k + 1 = 29 → 258 < rowL lens k + 2 ^ (rowB lens k).toNat) := by decide +kernel
theorem dists_step : ∀ k : Nat, k < 30 → (k + 1 < 30 → rowL dists (k + 1) ≤ rowL dists k + 2 ^ (rowB dists k).toNat) ∧ (k + 1 = 30 → 32768 < rowL dists k + 2 ^ (rowB dists k).toNat) := by decide +kernel
theorem symXL_lt (n : Int) (h : 3 ≤ n) (h2 : n ≤ 258) : symX lens n < 2 ^ (symB lens n).toNat := by
  have h1 := lastLe_lt lens n lens.length (by decide)
  have h3 := lens_step (lastLe lens n lens.length) h1
  unfold symX symB
  rw [lens_length] at *
  rcases Nat.lt_or_ge (lastLe lens n 29 + 1) 29 with h4 | h4
  · have h5 := lastLe_gt lens n 29 (lastLe lens n 29 + 1) (by omega) h4
    have := h3.1 h4
    omega
  · have := h3.2 (by omega)
    omega
theorem symXD_lt (n : Int) (h : 1 ≤ n) (h2 : n ≤ 32768) : symX dists n < 2 ^ (symB dists n).toNat := by
  have h1 := lastLe_lt dists n dists.length (by decide)
  have h3 := dists_step (lastLe dists n dists.length) h1
  unfold symX symB
  rw [dists_length] at *
  rcases Nat.lt_or_ge (lastLe dists n 30 + 1) 30 with h4 | h4
  · have h5 := lastLe_gt dists n 30 (lastLe dists n 30 + 1) (by omega) h4
    have := h3.1 h4
    omega
  · have := h3.2 (by omega)
    omega
end Go.Proofs.YtendohnkhbgfbaaDoor
/-
  The walks of package syms: of, Length, Distance, Literal, LengthOf, DistanceOf.
-/
namespace Go.Proofs.YtendohnkhbgfbaaDoor
open Go.RowKit

/-- The table's cells: two a row. -/
def RowsAt (w : World) (g : Nat) (rows : List (Int × Int)) : Prop :=
  ∀ j, j < rows.length → w.cell? ⟨g, j * 2, none⟩ = some (.int .i64 (rowL rows j)) ∧ w.cell? ⟨g, j * 2 + 1, none⟩ = some (.int .i64 (rowB rows j))
theorem RowsAt.below {w w1 : World} {g : Nat} {rows : List (Int × Int)} (h : RowsAt w g rows) (hb : Below w.heap.size w w1) : RowsAt w1 g rows :=
  fun j hj => ⟨(hb.cell (World.block_lt_of_cell? w _ (h j hj).1)).trans (h j hj).1, (hb.cell (World.block_lt_of_cell? w _ (h j hj).2)).trans (h j hj).2⟩

set_option maxHeartbeats 400000 in
theorem of_calls (n first : Int) (rows : List (Int × Int)) (g len : Nat) (w : World) (hlen : rows.length = len) (hn : 0 ≤ n) (hn2 : n ≤ 40000) (hf : 0 ≤ first) (hf2 : first ≤ 1000) (hl : 0 < len) (hl2 : len ≤ 100)
   (hr : ∀ j, j < len → 0 ≤ rowL rows j ∧ rowL rows j ≤ 40000)
   (hr0 : rowL rows 0 ≤ n) (hc : RowsAt w g rows) :
    Calls Tryd.prog 111 #[.int .i64 n, .int .i64 first, .slice (some ⟨g, 0, none⟩) len len] w fun e w' =>
      e = .returned (.agg #[.int .i64 (symS first rows n), .int .i64 (symB rows n), .int .u64 (symX rows n)]) ∧ Below w.heap.size w w' := by
  have hc0 := hc.below ((Below.refl w.heap.size w).alloc (Nat.le_refl _) (Obj.cells #[Value.int IntKind.i64 0, Value.int IntKind.i64 0, Value.int IntKind.u64 0] 137))
  have Hc := Lib.hid hc0
  have Hr := Lib.hid hr
  have Hr0 := Lib.hid hr0
  have Hlen := Lib.hid hlen
  clear hc hc0 hr hr0 hlen
  go_enter Tryd.func111, Tryd.ntmps111
  go_wp2
  go_loop [7] (fun i => ∃ k : Nat, k < len ∧ i = .int .i64 k ∧ Hid (lastLe rows n len = lastLe rows n (k + 1))) (fun i => (intOf i).toNat)
  case atStart => exact ⟨len - 1, by omega, by congr 1; omega, by show _ = _; congr 1; omega⟩
  case round =>
    obtain ⟨k, hk, rfl, hall⟩ := hrel
    have hz := (Hc.out k (Hlen.out ▸ hk)).1
    have hz2 := (Hc.out k (Hlen.out ▸ hk)).2
    have hb := Hr.out k hk
    go_wp2
    · go_round
      case rel =>
        have h1 : 0 < k := by assumption
        have h2 : n < rowL rows k := by assumption
        refine ⟨k - 1, by omega, by go_num, ?_⟩
        have h3 := hall.out
        rw [lastLe_miss rows n k h2] at h3
        rw [show k - 1 + 1 = k from by omega]
        exact h3
      case measure => simp [intOf]; omega
    all_goals
      have Hk : Hid (lastLe rows n len = k) := by
        first
        | exact (hall.out.trans (lastLe_hit rows n k (by assumption)))
        | (obtain rfl : k = 0 := by omega
           exact hall.out.trans (lastLe_one rows n))
      have h2 : rowL rows k ≤ n := by
        first
        | assumption
        | (obtain rfl : k = 0 := by omega
           exact Hr0.out)
      clear hall
      go_region
      go_wp2
      refine bodyPost_ret (v := .agg #[.int .i64 (first + k), .int .i64 (rowB rows k), .int .u64 (n - rowL rows k)]) (by simp [results, Tryd.results111, go_sem]) rfl ⟨?_, ((Below.refl _ _).alloc (Nat.le_refl _) _).drew⟩
      have hk3 := Hk.out
      unfold symS symB symX
      rw [Hlen.out, hk3]

set_option maxHeartbeats 400000 in
theorem Length_calls (n : Int) (w : World) (hn : -9223372036854775808 ≤ n) (hn2 : n ≤ 9223372036854775807) (hc : RowsAt w 4 lens) :
    Calls Tryd.prog 83 #[.int .i64 n] w fun e w' =>
      e = .returned (.agg #[.int .i64 (symS 257 lens (clampL n)), .int .i64 (symB lens (clampL n)), .int .u64 (symX lens (clampL n))]) ∧ Below w.heap.size w w' := by
  have hc0 := hc.below ((Below.refl w.heap.size w).alloc (Nat.le_refl _) (Obj.cells #[Value.int IntKind.i64 0, Value.int IntKind.i64 0, Value.int IntKind.u64 0] 137))
  have Hc := Lib.hid hc0
  clear hc hc0
  go_enter Tryd.func83, Tryd.ntmps83
  go_wp2_with (go_at_call 111; refine (of_calls _ 257 lens _ 29 _ rfl (by omega) (by omega) (by omega) (by omega) (by omega) (by omega) (fun j hj => by have := lens_range j hj; omega) (by show (3 : Int) ≤ _; omega) Hc.out).mono ?_; rintro e w' ⟨rfl, hb⟩; obtain ⟨c0, f0⟩ := laid_kept hb 0 _ rfl; obtain ⟨c1, f1⟩ := laid_kept hb 1 _ rfl; obtain ⟨c2, f2⟩ := laid_kept hb 2 _ rfl)
  all_goals
    have h5 : Below w.heap.size w w' := ((Below.refl _ _).alloc (Nat.le_refl _) _).trans (hb.mono (by simp))
    refine bodyPost_ret (v := .agg #[.int .i64 (symS 257 lens (clampL n)), .int .i64 (symB lens (clampL n)), .int .u64 (symX lens (clampL n))]) ?_ rfl ⟨rfl, ((h5.setCell (Nat.le_refl _) _).setCell (Nat.le_refl _) _).setCell (Nat.le_refl _) _⟩
    first
    | rw [clampL_lo (by omega)]
    | rw [clampL_hi (by omega)]
    | rw [clampL_in (by omega) (by omega)]
    simp [results, Tryd.results83, go_sem, c0, c1, c2]

set_option maxHeartbeats 400000 in
theorem Distance_calls (n : Int) (w : World) (hn : -9223372036854775808 ≤ n) (hn2 : n ≤ 9223372036854775807) (hc : RowsAt w 5 dists) :
    Calls Tryd.prog 84 #[.int .i64 n] w fun e w' =>
      e = .returned (.agg #[.int .i64 (symS 0 dists (clampD n)), .int .i64 (symB dists (clampD n)), .int .u64 (symX dists (clampD n))]) ∧ Below w.heap.size w w' := by
  have hc0 := hc.below ((Below.refl w.heap.size w).alloc (Nat.le_refl _) (Obj.cells #[Value.int IntKind.i64 0, Value.int IntKind.i64 0, Value.int IntKind.u64 0] 137))
  have Hc := Lib.hid hc0
  clear hc hc0
  go_enter Tryd.func84, Tryd.ntmps84
  go_wp2_with (go_at_call 111; refine (of_calls _ 0 dists _ 30 _ rfl (by omega) (by omega) (by omega) (by omega) (by omega) (by omega) (fun j hj => by have := dists_range j hj; omega) (by show (1 : Int) ≤ _; omega) Hc.out).mono ?_; rintro e w' ⟨rfl, hb⟩; obtain ⟨c0, f0⟩ := laid_kept hb 0 _ rfl; obtain ⟨c1, f1⟩ := laid_kept hb 1 _ rfl; obtain ⟨c2, f2⟩ := laid_kept hb 2 _ rfl)
  all_goals
    have h5 : Below w.heap.size w w' := ((Below.refl _ _).alloc (Nat.le_refl _) _).trans (hb.mono (by simp))
    refine bodyPost_ret (v := .agg #[.int .i64 (symS 0 dists (clampD n)), .int .i64 (symB dists (clampD n)), .int .u64 (symX dists (clampD n))]) ?_ rfl ⟨rfl, ((h5.setCell (Nat.le_refl _) _).setCell (Nat.le_refl _) _).setCell (Nat.le_refl _) _⟩
    first
    | rw [clampD_lo (by omega)]
    | rw [clampD_hi (by omega)]
    | rw [clampD_in (by omega) (by omega)]
    simp [results, Tryd.results84, go_sem, c0, c1, c2]

set_option maxHeartbeats 400000 in
theorem Literal_calls (b : Int) (w : World) (h0 : 0 ≤ b) (h1 : b ≤ 255) :
    Calls Tryd.prog 82 #[.int .u8 b] w fun e w' =>
      e = .returned (.agg #[.int .i64 b, .int .i64 0, .int .u64 0]) ∧ Below w.heap.size w w' := by
  go_enter Tryd.func82, Tryd.ntmps82
  go_wp2
  exact bodyPost_ret (v := .agg #[.int .i64 b, .int .i64 0, .int .u64 0]) (by simp [results, Tryd.results82, go_sem]) rfl ⟨rfl, (Below.refl _ _).alloc (Nat.le_refl _) _⟩

/-- What 'LengthOf', 'DistanceOf' answer. -/
def lenOfE (s : Int) : Ending := if 257 ≤ s ∧ s ≤ 285 then .returned (.tuple #[.int .i64 (rowL lens (s - 257).toNat), .int .i64 (rowB lens (s - 257).toNat), .bool true]) else .returned (.tuple #[.int .i64 0, .int .i64 0, .bool false])
def distOfE (s : Int) : Ending := if 0 ≤ s ∧ s ≤ 29 then .returned (.tuple #[.int .i64 (rowL dists s.toNat), .int .i64 (rowB dists s.toNat), .bool true]) else .returned (.tuple #[.int .i64 0, .int .i64 0, .bool false])

set_option maxHeartbeats 400000 in
theorem LengthOf_calls (s : Int) (w : World) (hn : -9223372036854775808 ≤ s) (hn2 : s ≤ 9223372036854775807) (hc : RowsAt w 4 lens) :
    Calls Tryd.prog 124 #[.int .i64 s] w fun e w' => e = lenOfE s ∧ Below w.heap.size w w' := by
  have Hc := Lib.hid hc
  clear hc
  by_cases h : 257 ≤ s ∧ s ≤ 285
  · obtain ⟨ha, hb⟩ := h
    have he : lenOfE s = .returned (.tuple #[.int .i64 (rowL lens (s - 257).toNat), .int .i64 (rowB lens (s - 257).toNat), .bool true]) := if_pos ⟨ha, hb⟩
    rw [he]
    clear he
    obtain ⟨k, rfl⟩ : ∃ k : Nat, s = 257 + k := ⟨(s - 257).toNat, by omega⟩
    have hz : w.cell? ⟨4, (257 + k - 256 - 1) * 2, none⟩ = some (.int .i64 (rowL lens k)) := by rw [show 257 + k - 256 - 1 = k from by omega]; exact (Hc.out k (by rw [lens_length]; omega)).1
    have hz2 : w.cell? ⟨4, (257 + k - 256 - 1) * 2 + 1, none⟩ = some (.int .i64 (rowB lens k)) := by rw [show 257 + k - 256 - 1 = k from by omega]; exact (Hc.out k (by rw [lens_length]; omega)).2
    rw [show ((257 : Int) + k - 257).toNat = k from by omega]
    go_enter Tryd.func124, Tryd.ntmps124
    go_wp2
    go_region
    go_wp2
    go_ret3
    exact ⟨rfl, ((Below.refl _ _).alloc (Nat.le_refl _) _).drew⟩
  · rw [show lenOfE s = .returned (.tuple #[.int .i64 0, .int .i64 0, .bool false]) from if_neg h]
    by_cases h2 : s ≤ 256
    · go_enter Tryd.func124, Tryd.ntmps124
      go_wp2
      go_ret3
      exact ⟨rfl, Below.refl _ _⟩
    · have h3 : 286 ≤ s := by omega
      clear h
      go_enter Tryd.func124, Tryd.ntmps124
      go_wp2
      go_ret3
      exact ⟨rfl, Below.refl _ _⟩

set_option maxHeartbeats 400000 in
theorem DistanceOf_calls (s : Int) (w : World) (hn : -9223372036854775808 ≤ s) (hn2 : s ≤ 9223372036854775807) (hc : RowsAt w 5 dists) :
    Calls Tryd.prog 125 #[.int .i64 s] w fun e w' => e = distOfE s ∧ Below w.heap.size w w' := by
  have Hc := Lib.hid hc
  clear hc
  by_cases h : 0 ≤ s ∧ s ≤ 29
  · obtain ⟨ha, hb⟩ := h
    have he : distOfE s = .returned (.tuple #[.int .i64 (rowL dists s.toNat), .int .i64 (rowB dists s.toNat), .bool true]) := if_pos ⟨ha, hb⟩
    rw [he]
    clear he
    obtain ⟨k, rfl⟩ : ∃ k : Nat, s = k := ⟨s.toNat, by omega⟩
    have hz := (Hc.out k (by rw [dists_length]; omega)).1
    have hz2 := (Hc.out k (by rw [dists_length]; omega)).2
    rw [Int.toNat_natCast]
    go_enter Tryd.func125, Tryd.ntmps125
    go_wp2
    go_region
    go_wp2
    go_ret3
    exact ⟨rfl, (Below.refl _ _).drew⟩
  · rw [show distOfE s = .returned (.tuple #[.int .i64 0, .int .i64 0, .bool false]) from if_neg h]
    by_cases h2 : s < 0
    · go_enter Tryd.func125, Tryd.ntmps125
      go_wp2
      go_ret3
      exact ⟨rfl, Below.refl _ _⟩
    · have h3 : 30 ≤ s := by omega
      clear h
      go_enter Tryd.func125, Tryd.ntmps125
      go_wp2
      go_ret3
      exact ⟨rfl, Below.refl _ _⟩
end Go.Proofs.YtendohnkhbgfbaaDoor
/-
  The tables of the symbols, as the walks need them.
-/
namespace Go.Proofs.YtendohnkhbgfbaaDoor
open Go.RowKit

def Tabs (w : World) : Prop := RowsAt w 4 lens ∧ RowsAt w 5 dists
theorem Tabs.below {w w1 : World} (h : Tabs w) (hb : Below w.heap.size w w1) : Tabs w1 := ⟨h.1.below hb, h.2.below hb⟩
theorem Tabs.alloc {w : World} (h : Tabs w) (o : Obj) : Tabs (w.alloc o) := h.below ((Below.refl _ _).alloc (Nat.le_refl _) _)
end Go.Proofs.YtendohnkhbgfbaaDoor
/-
  The walk of syms.Fixed.
-/
namespace Go.Proofs.YtendohnkhbgfbaaDoor
open Go.RowKit

theorem elIntF : ElT Tryd.prog 99 3 (.int .i64 0) 1 8 := ⟨Tryd.underlying99, by kernel_rfl, rfl, by decide, by decide⟩
def fixAt (j : Nat) : Int := if j < 144 then 8 else if j < 256 then 9 else if j < 280 then 7 else 8
def fixA : List Int := (List.range 288).map fixAt
def fixB : List Int := List.replicate 32 5
theorem fixA_length : fixA.length = 288 := by simp [fixA]
theorem rd_fixA (j : Nat) (h : j < 288) : rd fixA j = fixAt j := by
  rw [rd_getElem (by rw [fixA_length]; exact h)]
  simp [fixA]
theorem rd_fixB (j : Nat) (h : j < 32) : rd fixB j = 5 := by
  rw [rd_getElem (by unfold fixB; rw [List.length_replicate]; exact h)]
  unfold fixB
  rw [List.getElem_replicate]
theorem right_fixA : rightB fixA = true := by kernel_rfl
theorem right_fixB : rightB fixB = true := by kernel_rfl

set_option maxHeartbeats 1000000 in
set_option maxRecDepth 100000 in
theorem Fixed_calls (w : World) :
    Calls Tryd.prog 52 #[] w fun e w' => ∃ ga gb, e = .returned (.tuple #[.slice (some ⟨ga, 0, none⟩) 288 288, .slice (some ⟨gb, 0, none⟩) 32 32]) ∧
      w'.ownsRow w.heap.size 3 1 (.slice (some ⟨ga, 0, none⟩) 288 288) 288 (ints .i64 fixA) ∧ w'.ownsRow w.heap.size 3 1 (.slice (some ⟨gb, 0, none⟩) 32 32) 32 (ints .i64 fixB) ∧ Below w.heap.size w w' := by
  go_enter Tryd.func52, Tryd.ntmps52
  go_upto_region 1 with fail
  go_cut [2, 3] from 6 to 7 (fun a b wx => ∃ ga gb, ga ≠ gb ∧ a = .slice (some ⟨ga, 0, none⟩) 288 288 ∧ b = .slice (some ⟨gb, 0, none⟩) 32 32 ∧ (∃ la, wx.ownsRow w.heap.size 3 1 a 288 (ints .i64 la)) ∧ (∃ lb, wx.ownsRow w.heap.size 3 1 b 32 (ints .i64 lb)) ∧ Below w.heap.size w wx)
  case first =>
    obtain ⟨oA, la, mA, _, rA⟩ := make_rule elIntF 288 288 rfl (by decide)
    obtain ⟨oB, lb, mB, _, rB⟩ := make_rule elIntF 32 32 rfl (by decide)
    go_wp2
    go_region
    · go_wp2
      go_meet
      exact ⟨w.heap.size, w.heap.size + 1, by omega, by simp, by simp, ⟨la, (rA.out w.drew _ _ rfl (Nat.le_refl _)).alloc _⟩, ⟨lb, rB.out (w.drew.alloc oA) _ _ (by simp) (by omega)⟩, below_new (below_new (Below.refl _ _).drew (Nat.le_refl _) _) (Nat.le_refl _) _⟩
    · go_wp2
      go_meet
      exact ⟨w.heap.size + 1, w.heap.size, by omega, by simp, by simp, ⟨la, rA.out (w.drew.alloc oB) _ _ (by simp) (by omega)⟩, ⟨lb, (rB.out w.drew _ _ rfl (Nat.le_refl _)).alloc _⟩, below_new (below_new (Below.refl _ _).drew (Nat.le_refl _) _) (Nat.le_refl _) _⟩
  case rest =>
    obtain ⟨ga, gb, hne, rfl, rfl, ⟨la, hownA⟩, ⟨lb, hownB⟩, hb⟩ := hcut
    have HA := Lib.hid hownA
    have HB := Lib.hid hownB
    have Hb := Lib.hid hb
    have hs := hb.size
    clear hownA hownB hb
    go_wp2
    go_loopw [10] (fun i wr => ∃ (k : Nat) (l : List Int), k ≤ 288 ∧ i = .int .i64 k ∧ wr.ownsRow w.heap.size 3 1 (.slice (some ⟨ga, 0, none⟩) 288 288) 288 (ints .i64 l) ∧ wr.ownsRow w.heap.size 3 1 (.slice (some ⟨gb, 0, none⟩) 32 32) 32 (ints .i64 lb) ∧ Hid (∀ j, j < k → rd l j = fixAt j) ∧ Below w.heap.size w wr) (fun i _ => 288 - (intOf i).toNat)
    case atStart => exact ⟨0, _, by omega, rfl, HA.out, HB.out, (fun j hj => by omega), Hb.out⟩
    case round =>
      obtain ⟨k, l, hk, rfl, hA, hB, Hl, hbel⟩ := hrel
      have hga := (hA.lt ga rfl).1
      have hll : l.length = 288 := by have := hA.1; simpa [ints] using this
      have HA := Lib.hid hA
      have HB := Lib.hid hB
      have Hbel := Lib.hid hbel
      clear hA hB hbel
      by_cases hlt : k < 288
      · have hf := HA.out.frozenAt k
        have hcell := HA.out.cellAt k (by omega)
        rw [ints_get (by omega)] at hcell
        by_cases h1 : k < 144
        · have hv : fixAt k = 8 := by unfold fixAt; rw [if_pos h1]
          go_wp2
          go_roundw
          case rel =>
            refine ⟨k + 1, l.set k 8, by omega, by go_num, by rw [ints_set]; exact (HA.out.stored k _).1, ownsRow_setCell_other HB.out (by simpa [Value.ownBlock] using hne.symm) _, ?_, Hbel.out.setCell hga _⟩
            intro j hj
            rw [rd_set (by omega)]
            split
            · rename_i e; rw [← e, hv]
            · exact Hl.out j (by omega)
          case measure => simp [intOf]; omega
        · by_cases h2 : k < 256
          · have hv : fixAt k = 9 := by unfold fixAt; rw [if_neg h1, if_pos h2]
            go_wp2
            go_roundw
            case rel =>
              refine ⟨k + 1, l.set k 9, by omega, by go_num, by rw [ints_set]; exact (HA.out.stored k _).1, ownsRow_setCell_other HB.out (by simpa [Value.ownBlock] using hne.symm) _, ?_, Hbel.out.setCell hga _⟩
              intro j hj
              rw [rd_set (by omega)]
              split
              · rename_i e; rw [← e, hv]
              · exact Hl.out j (by omega)
            case measure => simp [intOf]; omega
          · by_cases h3 : k < 280
            · have hv : fixAt k = 7 := by unfold fixAt; rw [if_neg h1, if_neg h2, if_pos h3]
              go_wp2
              go_roundw
              case rel =>
                refine ⟨k + 1, l.set k 7, by omega, by go_num, by rw [ints_set]; exact (HA.out.stored k _).1, ownsRow_setCell_other HB.out (by simpa [Value.ownBlock] using hne.symm) _, ?_, Hbel.out.setCell hga _⟩
                intro j hj
                rw [rd_set (by omega)]
                split
                · rename_i e; rw [← e, hv]
                · exact Hl.out j (by omega)
              case measure => simp [intOf]; omega
            · have hv : fixAt k = 8 := by unfold fixAt; rw [if_neg h1, if_neg h2, if_neg h3]
              go_wp2
              go_roundw
              case rel =>
                refine ⟨k + 1, l.set k 8, by omega, by go_num, by rw [ints_set]; exact (HA.out.stored k _).1, ownsRow_setCell_other HB.out (by simpa [Value.ownBlock] using hne.symm) _, ?_, Hbel.out.setCell hga _⟩
                intro j hj
                rw [rd_set (by omega)]
                split
                · rename_i e; rw [← e, hv]
                · exact Hl.out j (by omega)
              case measure => simp [intOf]; omega
      · obtain rfl : k = 288 := by omega
        have e : l = fixA := ext_rd (by rw [hll, fixA_length]) (fun j hj => by rw [Hl.out j (by omega), rd_fixA j (by omega)])
        subst e
        go_wp2
        obtain ⟨wo, hwo⟩ : ∃ wo : World, wo = wr := ⟨_, rfl⟩
        subst hwo
        go_loopw [37] (fun i wr => ∃ (k : Nat) (l : List Int), k ≤ 32 ∧ i = .int .i64 k ∧ wr.ownsRow w.heap.size 3 1 (.slice (some ⟨ga, 0, none⟩) 288 288) 288 (ints .i64 fixA) ∧ wr.ownsRow w.heap.size 3 1 (.slice (some ⟨gb, 0, none⟩) 32 32) 32 (ints .i64 l) ∧ Hid (∀ j, j < k → rd l j = 5) ∧ Below w.heap.size w wr) (fun i _ => 32 - (intOf i).toNat)
        case atStart => exact ⟨0, _, by omega, rfl, HA.out, HB.out, (fun j hj => by omega), Hbel.out⟩
        case round =>
          obtain ⟨k, l, hk, rfl, hA, hB, Hl, hbel⟩ := hrel
          have hgb := (hB.lt gb rfl).1
          have hll : l.length = 32 := by have := hB.1; simpa [ints] using this
          have HA := Lib.hid hA
          have HB := Lib.hid hB
          have Hbel := Lib.hid hbel
          clear hA hB hbel
          by_cases hlt : k < 32
          · have hf := HB.out.frozenAt k
            have hcell := HB.out.cellAt k (by omega)
            rw [ints_get (by omega)] at hcell
            go_wp2
            go_roundw
            case rel =>
              refine ⟨k + 1, l.set k 5, by omega, by go_num, ownsRow_setCell_other HA.out (by simpa [Value.ownBlock] using hne) _, by rw [ints_set]; exact (HB.out.stored k _).1, ?_, Hbel.out.setCell hgb _⟩
              intro j hj
              rw [rd_set (by omega)]
              split
              · rfl
              · exact Hl.out j (by omega)
            case measure => simp [intOf]; omega
          · obtain rfl : k = 32 := by omega
            have e : l = fixB := ext_rd (by rw [hll]; rfl) (fun j hj => by rw [Hl.out j (by omega), rd_fixB j (by omega)])
            subst e
            go_wp2
            refine bodyPost_ret (v := .tuple #[.slice (some ⟨ga, 0, none⟩) 288 288, .slice (some ⟨gb, 0, none⟩) 32 32]) (by simp [results, Tryd.results52, go_sem]) rfl ⟨_, _, rfl, HA.out, HB.out, Hbel.out⟩
end Go.Proofs.YtendohnkhbgfbaaDoor
/-
  The walks of the reference's tables (inkwellref07): Lengths, Distances, Of.
-/
namespace Go.Proofs.YtendohnkhbgfbaaDoor
open Go.RowKit

/-- Rows as cells. -/
def rowCells (rows : List (Int × Int)) : List Value := rows.flatMap fun r => [.int .i64 r.1, .int .i64 r.2]
theorem rowCells_length (rows : List (Int × Int)) : (rowCells rows).length = rows.length * 2 := by
  induction rows with
  | nil => rfl
  | cons r rows ih => simp [rowCells] at *; omega
theorem rowCells_append (r s : List (Int × Int)) : rowCells (r ++ s) = rowCells r ++ rowCells s := by simp [rowCells]
theorem elRow : ElT Tryd.prog 153 158 (.agg #[.int .i64 0, .int .i64 0]) 2 16 := ⟨Tryd.underlying153, by kernel_rfl, rfl, by decide, by decide⟩

theorem take_rows (rows : List (Int × Int)) (k : Nat) (h : k < rows.length) : rowCells (rows.take (k + 1)) = rowCells (rows.take k) ++ [.int .i64 (rowL rows k), .int .i64 (rowB rows k)] := by
  rw [List.take_succ_eq_append_getElem h, rowCells_append]
  simp [rowCells, rowL, rowB, List.getD_eq_getElem?_getD, List.getElem?_eq_getElem h]
theorem lens_bits : ∀ k : Nat, k < 28 → (if (k : Int) / 4 - 1 < 0 then 0 else (k : Int) / 4 - 1) = rowB lens k := by decide
theorem lens_next : ∀ k : Nat, k < 28 → k + 1 < 28 → wrap64 (rowL lens k + wrap64 (2 ^ (if (k : Int) / 4 - 1 < 0 then 0 else (k : Int) / 4 - 1).toNat)) = rowL lens (k + 1) := by decide +kernel
theorem dists_bits : ∀ k : Nat, k < 30 → (if (k : Int) / 2 - 1 < 0 then 0 else (k : Int) / 2 - 1) = rowB dists k := by decide
theorem dists_next : ∀ k : Nat, k < 30 → k + 1 < 30 → wrap64 (rowL dists k + wrap64 (2 ^ (if (k : Int) / 2 - 1 < 0 then 0 else (k : Int) / 2 - 1).toNat)) = rowL dists (k + 1) := by decide +kernel

set_option maxHeartbeats 400000 in
set_option maxRecDepth 100000 in
theorem rLengths_calls (w : World) :
    Calls Tryd.prog 92 #[] w fun e w' => ∃ v, e = .returned v ∧ w'.ownsRow w.heap.size 158 2 v 29 (rowCells lens) ∧ Below w.heap.size w w' := by
  go_enter Tryd.func92, Tryd.ntmps92
  go_wp2
  go_loopw [1, 2, 3] (fun v l i wr => ∃ k : Nat, k ≤ 28 ∧ i = .int .i64 k ∧ (k < 28 → l = .int .i64 (rowL lens k)) ∧ wr.ownsRow w.heap.size 158 2 v k (rowCells (lens.take k)) ∧ Below w.heap.size w wr) (fun _ _ i _ => 28 - (intOf i).toNat)
  case atStart => exact ⟨0, by omega, rfl, fun _ => rfl, World.ownsRow_nil _ _ _ _, Below.refl _ _⟩
  case round =>
    obtain ⟨k, hk, rfl, hl, hown, hbel⟩ := hrel
    have Hown := Lib.hid hown
    have Hbel := Lib.hid hbel
    have hsz := hbel.size
    clear hown hbel
    by_cases hlt : k < 28
    · obtain rfl := hl hlt
      have hr := lens_range k (by omega)
      clear hl
      go_wp2_with (at_builtin; refine wpList_app1 rfl _ _ rfl elRow Hown.out rfl rfl rfl rfl (by omega) (by omega) ?_; intro v' w' hown' hbel' _)
      go_roundw
      case rel =>
        rw [lens_bits k hlt] at hown'
        exact ⟨k + 1, by omega, by go_num, fun h => by rw [lens_next k hlt h], by rw [take_rows lens k (by rw [lens_length]; omega)]; exact hown', Hbel.out.trans hbel'⟩
      case measure => simp [intOf]; omega
    · obtain rfl : k = 28 := by omega
      clear hl
      go_wp2_with (at_builtin; refine wpList_app1 rfl _ _ rfl elRow Hown.out rfl rfl rfl rfl (by omega) (by omega) ?_; intro v' w' hown' hbel' _)
      go_ret
      exact ⟨v', rfl, hown', Hbel.out.trans hbel'⟩

set_option maxHeartbeats 400000 in
set_option maxRecDepth 100000 in
theorem rDistances_calls (w : World) :
    Calls Tryd.prog 93 #[] w fun e w' => ∃ v, e = .returned v ∧ w'.ownsRow w.heap.size 158 2 v 30 (rowCells dists) ∧ Below w.heap.size w w' := by
  go_enter Tryd.func93, Tryd.ntmps93
  go_wp2
  go_loopw [1, 2, 3] (fun v l i wr => ∃ k : Nat, k ≤ 30 ∧ i = .int .i64 k ∧ (k < 30 → l = .int .i64 (rowL dists k)) ∧ wr.ownsRow w.heap.size 158 2 v k (rowCells (dists.take k)) ∧ Below w.heap.size w wr) (fun _ _ i _ => 30 - (intOf i).toNat)
  case atStart => exact ⟨0, by omega, rfl, fun _ => rfl, World.ownsRow_nil _ _ _ _, Below.refl _ _⟩
  case round =>
    obtain ⟨k, hk, rfl, hl, hown, hbel⟩ := hrel
    have Hown := Lib.hid hown
    have Hbel := Lib.hid hbel
    have hsz := hbel.size
    clear hown hbel
    by_cases hlt : k < 30
    · obtain rfl := hl hlt
      have hr := dists_range k (by omega)
      clear hl
      go_wp2_with (at_builtin; refine wpList_app1 rfl _ _ rfl elRow Hown.out rfl rfl rfl rfl (by omega) (by omega) ?_; intro v' w' hown' hbel' _)
      go_roundw
      case rel =>
        rw [dists_bits k hlt] at hown'
        exact ⟨k + 1, by omega, by go_num, fun h => by rw [dists_next k hlt h], by rw [take_rows dists k (by rw [dists_length]; omega)]; exact hown', Hbel.out.trans hbel'⟩
      case measure => simp [intOf]; omega
    · obtain rfl : k = 30 := by omega
      clear hl
      go_wp2_with fail
      go_ret
      exact ⟨_, rfl, Hown.out, Hbel.out⟩

theorem rowsAt_own {w : World} {base n : Nat} {e : TypeId} {v : Value} {rows : List (Int × Int)} (h : w.ownsRow base e 2 v n (rowCells rows)) (h0 : 0 < n) : ∃ g c, v = .slice (some ⟨g, 0, none⟩) n c ∧ n ≤ c ∧ RowsAt w g rows := by
  obtain ⟨g, c, hv, _, _, hc, hcell, _⟩ := own_form h h0
  refine ⟨g, c, hv, hc, fun j hj => ?_⟩
  have key : ∀ (l : List (Int × Int)) (j : Nat), j < l.length → (rowCells l)[j * 2]? = some (.int .i64 (rowL l j)) ∧ (rowCells l)[j * 2 + 1]? = some (.int .i64 (rowB l j)) := by
    intro l
    induction l with
    | nil => intro j hj; simp at hj
    | cons r l ih =>
      intro j hj
      cases j with
      | zero => exact ⟨rfl, rfl⟩
      | succ j =>
        have := ih j (by simpa using hj)
        have e1 : (rowCells (r :: l))[(j + 1) * 2]? = (rowCells l)[j * 2]? := by rw [show (j + 1) * 2 = j * 2 + 1 + 1 from by omega]; rfl
        have e2 : (rowCells (r :: l))[(j + 1) * 2 + 1]? = (rowCells l)[j * 2 + 1]? := by rw [show (j + 1) * 2 + 1 = j * 2 + 1 + 1 + 1 from by omega]; rfl
        rw [e1, e2]
        exact this
  obtain ⟨k1, k2⟩ := key rows j hj
  exact ⟨hcell _ _ k1, hcell _ _ k2⟩

set_option maxHeartbeats 400000 in
theorem rOf_calls (n : Int) (rows : List (Int × Int)) (g len c : Nat) (w : World) (hlen : rows.length = len) (hn : 0 ≤ n) (hn2 : n ≤ 40000) (hl : 0 < len) (hl2 : len ≤ 100)
   (hr : ∀ j, j < len → 0 ≤ rowL rows j ∧ rowL rows j ≤ 40000) (hc : RowsAt w g rows) :
    Calls Tryd.prog 95 #[.int .i64 n, .slice (some ⟨g, 0, none⟩) len c] w fun e w' =>
      e = .returned (.tuple #[.int .i64 (lastLe rows n len), .int .i64 (symX rows n)]) ∧ Below w.heap.size w w' := by
  have Hc := Lib.hid hc
  have Hr := Lib.hid hr
  have Hlen := Lib.hid hlen
  clear hc hr hlen
  go_enter Tryd.func95, Tryd.ntmps95
  go_wp2
  go_loop [6, 7] (fun at_ i => ∃ k m : Nat, k ≤ len ∧ i = .int .i64 k ∧ at_ = .int .i64 m ∧ m < len ∧ Hid (m = lastLe rows n k)) (fun _ i => len - (intOf i).toNat)
  case atStart => exact ⟨0, 0, by omega, rfl, rfl, hl, rfl⟩
  case round =>
    obtain ⟨k, m, hk, rfl, rfl, hm, Hm⟩ := hrel
    by_cases hlt : k < len
    · have hz := (Hc.out k (Hlen.out ▸ hlt)).1
      have hb := Hr.out k hlt
      go_wp2
      all_goals
        go_round
        case rel =>
          first
          | exact ⟨k + 1, k, by omega, by go_num, by go_num, hlt, (lastLe_hit rows n k (by assumption)).symm⟩
          | exact ⟨k + 1, m, by omega, by go_num, rfl, hm, Hm.out.trans (lastLe_miss rows n k (by assumption)).symm⟩
        case measure => simp [intOf]; omega
    · have hk2 : k = len := by omega
      have hz := (Hc.out m (Hlen.out ▸ hm)).1
      have hb := Hr.out m hm
      have Hk := Lib.hid hk2
      have hk3 : len ≤ k := by omega
      clear hk2
      go_wp2
      go_region
      go_wp2
      go_ret2
      refine ⟨?_, (Below.refl _ _).drew⟩
      have e := Hm.out
      rw [Hk.out] at e
      unfold symX
      rw [Hlen.out, ← e]
      rfl
#print axioms rOf_calls
end Go.Proofs.YtendohnkhbgfbaaDoor
