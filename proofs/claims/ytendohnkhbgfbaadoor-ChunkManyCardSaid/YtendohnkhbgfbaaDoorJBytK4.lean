/-
  Texts joined into one file: SymsP, SymsW, Tabs, FixW, InfP, BitsN, Ref01, Rest.
-/
import Derived.WalkKit
import Derived.Test.YtendohnkhbgfbaaDoorJBytK1
import Derived.WalkSpells
import Derived.WalkLawsBesides
import Derived.Deep.QuietTactic
import Derived.BigQuiet
import Derived.Lib.Hide
import Derived.OneCell
import Derived.Deep.RegionWith
import Derived.Deep.Cut
import Derived.Deep.CutRange
import Derived.Deep.CutBlock
import Derived.Test.YtendohnkhbgfbaaDoorJBytK3
/-
  Plain facts about the tables of symbols (no program): the rows, the search from behind, the search from ahead.
-/
namespace Go.Proofs.YtendohnkhbgfbaaDoor

def rowL (rows : List (Int × Int)) (k : Nat) : Int := (rows.getD k (0, 0)).1
def rowB (rows : List (Int × Int)) (k : Nat) : Int := (rows.getD k (0, 0)).2
/-- The last of the first k rows that isn't above n; 0, if there is none. -/
def lastLe (rows : List (Int × Int)) (n : Int) : Nat → Nat
  | 0 => 0
  | k + 1 => if rowL rows k ≤ n then k else lastLe rows n k

theorem lastLe_lt (rows : List (Int × Int)) (n : Int) (k : Nat) (h : 0 < k) : lastLe rows n k < k := by
  induction k with
  | zero => omega
  | succ k ih =>
    simp only [lastLe]; split
    · omega
    · rcases Nat.eq_zero_or_pos k with rfl | hk
      · simp [lastLe]
      · have := ih hk; omega

theorem lastLe_hit (rows : List (Int × Int)) (n : Int) (k : Nat) (h : rowL rows k ≤ n) : lastLe rows n (k + 1) = k := by simp [lastLe, h]
theorem lastLe_miss (rows : List (Int × Int)) (n : Int) (k : Nat) (h : n < rowL rows k) : lastLe rows n (k + 1) = lastLe rows n k := by
  simp only [lastLe]; rw [if_neg (by omega)]
theorem lastLe_one (rows : List (Int × Int)) (n : Int) : lastLe rows n 1 = 0 := by simp [lastLe]

def lens : List (Int × Int) := [(3, 0), (4, 0), (5, 0), (6, 0), (7, 0), (8, 0), (9, 0), (10, 0), (11, 1), (13, 1), (15, 1), (17, 1), (19, 2), (23, 2), (27, 2), (31, 2), (35, 3), (43, 3), (51, 3), (59, 3), (67, 4), (83, 4), (99, 4), (115, 4), (131, 5), (163, 5), (195, 5), (227, 5), (258, 0)]
def dists : List (Int × Int) := [(1, 0), (2, 0), (3, 0), (4, 0), (5, 1), (7, 1), (9, 2), (13, 2), (17, 3), (25, 3), (33, 4), (49, 4), (65, 5), (97, 5), (129, 6), (193, 6), (257, 7), (385, 7), (513, 8), (769, 8), (1025, 9), (1537, 9), (2049, 10), (3073, 10), (4097, 11), (6145, 11), (8193, 12), (12289, 12), (16385, 13), (24577, 13)]
theorem lens_length : lens.length = 29 := rfl
theorem dists_length : dists.length = 30 := rfl

/-- The symbol's number, its bits, and what follows, of n. -/
def symS (first : Int) (rows : List (Int × Int)) (n : Int) : Int := first + (lastLe rows n rows.length : Nat)
def symB (rows : List (Int × Int)) (n : Int) : Int := rowB rows (lastLe rows n rows.length)
def symX (rows : List (Int × Int)) (n : Int) : Int := n - rowL rows (lastLe rows n rows.length)
def clampL (n : Int) : Int := if n < 3 then 3 else if 258 < n then 258 else n
def clampD (n : Int) : Int := if n < 1 then 1 else if 32768 < n then 32768 else n

theorem all_lt {p : Nat → Bool} {n : Nat} (h : (List.range n).all p = true) (k : Nat) (hk : k < n) : p k = true := List.all_eq_true.1 h k (List.mem_range.2 hk)

theorem lens_range (j : Nat) (h : j < 29) : 3 ≤ rowL lens j ∧ rowL lens j ≤ 258 ∧ 0 ≤ rowB lens j ∧ rowB lens j ≤ 5 := by
  have := all_lt (p := fun j => decide (3 ≤ rowL lens j ∧ rowL lens j ≤ 258 ∧ 0 ≤ rowB lens j ∧ rowB lens j ≤ 5)) (n := 29) (by decide) j h
  simpa using this
theorem dists_range (j : Nat) (h : j < 30) : 1 ≤ rowL dists j ∧ rowL dists j ≤ 24577 ∧ 0 ≤ rowB dists j ∧ rowB dists j ≤ 13 := by
  have := all_lt (p := fun j => decide (1 ≤ rowL dists j ∧ rowL dists j ≤ 24577 ∧ 0 ≤ rowB dists j ∧ rowB dists j ≤ 13)) (n := 30) (by decide) j h
  simpa using this

/-- Where the first row isn't above n, what is found isn't. -/
theorem lastLe_le (rows : List (Int × Int)) (n : Int) (k : Nat) (h0 : rowL rows 0 ≤ n) : rowL rows (lastLe rows n k) ≤ n := by
  induction k with
  | zero => simpa [lastLe] using h0
  | succ k ih => simp only [lastLe]; split <;> assumption

theorem clampL_range (n : Int) : 3 ≤ clampL n ∧ clampL n ≤ 258 := by unfold clampL; split <;> (try split) <;> omega
theorem clampD_range (n : Int) : 1 ≤ clampD n ∧ clampD n ≤ 32768 := by unfold clampD; split <;> (try split) <;> omega

theorem lastLe_mono (rows : List (Int × Int)) (n m : Int) (h : n ≤ m) (k : Nat) : lastLe rows n k ≤ lastLe rows m k := by
  induction k with
  | zero => simp [lastLe]
  | succ k ih =>
    have h0 : lastLe rows n k ≤ k := by
      rcases Nat.eq_zero_or_pos k with rfl | hk
      · simp [lastLe]
      · have := lastLe_lt rows n k hk; omega
    simp only [lastLe]
    split
    · rw [if_pos (by omega)]; exact Nat.le_refl _
    · split
      · exact h0
      · exact ih
/-- A greater number has no lesser symbol; of one symbol it has what follows more. -/
theorem sym_rise (first : Int) (rows : List (Int × Int)) (n m : Int) (h : n ≤ m) : symS first rows n < symS first rows m ∨ symS first rows n = symS first rows m ∧ symX rows n ≤ symX rows m := by
  have h1 := lastLe_mono rows n m h rows.length
  unfold symS symX
  rcases Nat.lt_or_ge (lastLe rows n rows.length) (lastLe rows m rows.length) with h2 | h2
  · left; omega
  · right
    have h3 : lastLe rows n rows.length = lastLe rows m rows.length := by omega
    rw [h3]
    exact ⟨rfl, by omega⟩
theorem clampL_mono {n m : Int} (h : n ≤ m) : clampL n ≤ clampL m := by unfold clampL; split <;> split <;> (try split) <;> (try split) <;> omega
theorem clampD_mono {n m : Int} (h : n ≤ m) : clampD n ≤ clampD m := by unfold clampD; split <;> split <;> (try split) <;> (try split) <;> omega
theorem clampL_lo {n : Int} (h : n < 3) : clampL n = 3 := if_pos h
theorem clampL_hi {n : Int} (h : 258 < n) : clampL n = 258 := by unfold clampL; rw [if_neg (by omega), if_pos h]
theorem clampL_in {n : Int} (h : 3 ≤ n) (h2 : n ≤ 258) : clampL n = n := by unfold clampL; rw [if_neg (by omega), if_neg (by omega)]
theorem clampD_lo {n : Int} (h : n < 1) : clampD n = 1 := if_pos h
theorem clampD_hi {n : Int} (h : 32768 < n) : clampD n = 32768 := by unfold clampD; rw [if_neg (by omega), if_pos h]
theorem clampD_in {n : Int} (h : 1 ≤ n) (h2 : n ≤ 32768) : clampD n = n := by unfold clampD; rw [if_neg (by omega), if_neg (by omega)]
theorem symL_range (n : Int) (h : 3 ≤ n) (h2 : n ≤ 258) : 257 ≤ symS 257 lens n ∧ symS 257 lens n ≤ 285 ∧ 0 ≤ symB lens n ∧ symB lens n ≤ 5 ∧ 0 ≤ symX lens n ∧ symX lens n ≤ 255 := by
  have h1 := lastLe_lt lens n lens.length (by decide)
  have h3 := lastLe_le lens n lens.length (by show (3 : Int) ≤ n; exact h)
  have h4 := lens_range (lastLe lens n lens.length) h1
  have h5 : lens.length = 29 := rfl
  unfold symS symB symX
  omega
theorem symD_range (n : Int) (h : 1 ≤ n) (h2 : n ≤ 32768) : 0 ≤ symS 0 dists n ∧ symS 0 dists n ≤ 29 ∧ 0 ≤ symB dists n ∧ symB dists n ≤ 13 ∧ 0 ≤ symX dists n ∧ symX dists n ≤ 32767 := by
  have h1 := lastLe_lt dists n dists.length (by decide)
  have h3 := lastLe_le dists n dists.length (by show (1 : Int) ≤ n; exact h)
  have h4 := dists_range (lastLe dists n dists.length) h1
  have h5 : dists.length = 30 := rfl
  unfold symS symB symX
  omega
/-- Behind what is found every row is above n. -/
theorem lastLe_gt (rows : List (Int × Int)) (n : Int) (k j : Nat) (h : lastLe rows n k < j) (hj : j < k) : n < rowL rows j := by
  induction k with
  | zero => omega
  | succ k ih =>
    simp only [lastLe] at h
    split at h
    · omega
    · rename_i hn
      rcases Nat.lt_or_ge j k with h2 | h2
      · exact ih h h2
      · obtain rfl : j = k := by omega
        omega
theorem lens_step : ∀ k : Nat, k < 29 → (k + 1 < 29 → rowL lens (k + 1) ≤ rowL lens k + 2 ^ (rowB lens k).toNat) ∧ (k + 1 = 29 → 258 < rowL lens k + 2 ^ (rowB lens k).toNat) := by decide +kernel
theorem dists_step : ∀ k : Nat, k < 30 → (k + 1 < 30 → rowL dists (k + 1) ≤ rowL dists k + 2 ^ (rowB dists k).toNat) ∧ (k + 1 = 30 → 32768 < rowL dists k + 2 ^ (rowB dists k).toNat) := by decide +kernel
theorem symXL_lt (n : Int) (h : 3 ≤ n) (h2 : n ≤ 258) : symX lens n < 2 ^ (symB lens n).toNat := by
  have h1 := lastLe_lt lens n lens.length (by decide)
  have h3 := lens_step (lastLe lens n lens.length) h1
  unfold symX symB
  rw [lens_length] at *
  rcases Nat.lt_or_ge (lastLe lens n 29 + 1) 29 with h4 | h4
  · have h5 := lastLe_gt lens n 29 (lastLe lens n 29 + 1) (by omega) h4
    have := h3.1 h4
    omega
  · have := h3.2 (by omega)
    omega
theorem symXD_lt (n : Int) (h : 1 ≤ n) (h2 : n ≤ 32768) : symX dists n < 2 ^ (symB dists n).toNat := by
  have h1 := lastLe_lt dists n dists.length (by decide)
  have h3 := dists_step (lastLe dists n dists.length) h1
  unfold symX symB
  rw [dists_length] at *
  rcases Nat.lt_or_ge (lastLe dists n 30 + 1) 30 with h4 | h4
  · have h5 := lastLe_gt dists n 30 (lastLe dists n 30 + 1) (by omega) h4
    have := h3.1 h4
    omega
  · have := h3.2 (by omega)
    omega
end Go.Proofs.YtendohnkhbgfbaaDoor
/-
  The walks of package syms: of, Length, Distance, Literal, LengthOf, DistanceOf.
-/
namespace Go.Proofs.YtendohnkhbgfbaaDoor
open Go.RowKit

/-- The table's cells: two a row. -/
def RowsAt (w : World) (g : Nat) (rows : List (Int × Int)) : Prop :=
  ∀ j, j < rows.length → w.cell? ⟨g, j * 2, none⟩ = some (.int .i64 (rowL rows j)) ∧ w.cell? ⟨g, j * 2 + 1, none⟩ = some (.int .i64 (rowB rows j))
theorem RowsAt.below {w w1 : World} {g : Nat} {rows : List (Int × Int)} (h : RowsAt w g rows) (hb : Below w.heap.size w w1) : RowsAt w1 g rows :=
  fun j hj => ⟨(hb.cell (World.block_lt_of_cell? w _ (h j hj).1)).trans (h j hj).1, (hb.cell (World.block_lt_of_cell? w _ (h j hj).2)).trans (h j hj).2⟩

set_option maxHeartbeats 400000 in
theorem of_calls (n first : Int) (rows : List (Int × Int)) (g len : Nat) (w : World) (hlen : rows.length = len) (hn : 0 ≤ n) (hn2 : n ≤ 40000) (hf : 0 ≤ first) (hf2 : first ≤ 1000) (hl : 0 < len) (hl2 : len ≤ 100)
   (hr : ∀ j, j < len → 0 ≤ rowL rows j ∧ rowL rows j ≤ 40000)
   (hr0 : rowL rows 0 ≤ n) (hc : RowsAt w g rows) :
    Calls Tryd.prog 111 #[.int .i64 n, .int .i64 first, .slice (some ⟨g, 0, none⟩) len len] w fun e w' =>
      e = .returned (.agg #[.int .i64 (symS first rows n), .int .i64 (symB rows n), .int .u64 (symX rows n)]) ∧ Below w.heap.size w w' := by
  have hc0 := hc.below ((Below.refl w.heap.size w).alloc (Nat.le_refl _) (Obj.cells #[Value.int IntKind.i64 0, Value.int IntKind.i64 0, Value.int IntKind.u64 0] 137))
  have Hc := Lib.hid hc0
  have Hr := Lib.hid hr
  have Hr0 := Lib.hid hr0
  have Hlen := Lib.hid hlen
  clear hc hc0 hr hr0 hlen
  go_enter Tryd.func111, Tryd.ntmps111
  go_wp2
  go_loop [7] (fun i => ∃ k : Nat, k < len ∧ i = .int .i64 k ∧ Hid (lastLe rows n len = lastLe rows n (k + 1))) (fun i => (intOf i).toNat)
  case atStart => exact ⟨len - 1, by omega, by congr 1; omega, by show _ = _; congr 1; omega⟩
  case round =>
    obtain ⟨k, hk, rfl, hall⟩ := hrel
    have hz := (Hc.out k (Hlen.out ▸ hk)).1
    have hz2 := (Hc.out k (Hlen.out ▸ hk)).2
    have hb := Hr.out k hk
    go_wp2
    · go_round
      case rel =>
        have h1 : 0 < k := by assumption
        have h2 : n < rowL rows k := by assumption
        refine ⟨k - 1, by omega, by go_num, ?_⟩
        have h3 := hall.out
        rw [lastLe_miss rows n k h2] at h3
        rw [show k - 1 + 1 = k from by omega]
        exact h3
      case measure => simp [intOf]; omega
    all_goals
      have Hk : Hid (lastLe rows n len = k) := by
        first
        | exact (hall.out.trans (lastLe_hit rows n k (by assumption)))
        | (obtain rfl : k = 0 := by omega
           exact hall.out.trans (lastLe_one rows n))
      have h2 : rowL rows k ≤ n := by
        first
        | assumption
        | (obtain rfl : k = 0 := by omega
           exact Hr0.out)
      clear hall
      go_region
      go_wp2
      refine bodyPost_ret (v := .agg #[.int .i64 (first + k), .int .i64 (rowB rows k), .int .u64 (n - rowL rows k)]) (by simp [results, Tryd.results111, go_sem]) rfl ⟨?_, ((Below.refl _ _).alloc (Nat.le_refl _) _).drew⟩
      have hk3 := Hk.out
      unfold symS symB symX
      rw [Hlen.out, hk3]

set_option maxHeartbeats 400000 in
theorem Length_calls (n : Int) (w : World) (hn : -9223372036854775808 ≤ n) (hn2 : n ≤ 9223372036854775807) (hc : RowsAt w 4 lens) :
    Calls Tryd.prog 83 #[.int .i64 n] w fun e w' =>
      e = .returned (.agg #[.int .i64 (symS 257 lens (clampL n)), .int .i64 (symB lens (clampL n)), .int .u64 (symX lens (clampL n))]) ∧ Below w.heap.size w w' := by
  have hc0 := hc.below ((Below.refl w.heap.size w).alloc (Nat.le_refl _) (Obj.cells #[Value.int IntKind.i64 0, Value.int IntKind.i64 0, Value.int IntKind.u64 0] 137))
  have Hc := Lib.hid hc0
  clear hc hc0
  go_enter Tryd.func83, Tryd.ntmps83
  go_wp2_with (go_at_call 111; refine (of_calls _ 257 lens _ 29 _ rfl (by omega) (by omega) (by omega) (by omega) (by omega) (by omega) (fun j hj => by have := lens_range j hj; omega) (by show (3 : Int) ≤ _; omega) Hc.out).mono ?_; rintro e w' ⟨rfl, hb⟩; obtain ⟨c0, f0⟩ := laid_kept hb 0 _ rfl; obtain ⟨c1, f1⟩ := laid_kept hb 1 _ rfl; obtain ⟨c2, f2⟩ := laid_kept hb 2 _ rfl)
  all_goals
    have h5 : Below w.heap.size w w' := ((Below.refl _ _).alloc (Nat.le_refl _) _).trans (hb.mono (by simp))
    refine bodyPost_ret (v := .agg #[.int .i64 (symS 257 lens (clampL n)), .int .i64 (symB lens (clampL n)), .int .u64 (symX lens (clampL n))]) ?_ rfl ⟨rfl, ((h5.setCell (Nat.le_refl _) _).setCell (Nat.le_refl _) _).setCell (Nat.le_refl _) _⟩
    first
    | rw [clampL_lo (by omega)]
    | rw [clampL_hi (by omega)]
    | rw [clampL_in (by omega) (by omega)]
    simp [results, Tryd.results83, go_sem, c0, c1, c2]

set_option maxHeartbeats 400000 in
theorem Distance_calls (n : Int) (w : World) (hn : -9223372036854775808 ≤ n) (hn2 : n ≤ 9223372036854775807) (hc : RowsAt w 5 dists) :
    Calls Tryd.prog 84 #[.int .i64 n] w fun e w' =>
      e = .returned (.agg #[.int .i64 (symS 0 dists (clampD n)), .int .i64 (symB dists (clampD n)), .int .u64 (symX dists (clampD n))]) ∧ Below w.heap.size w w' := by
  have hc0 := hc.below ((Below.refl w.heap.size w).alloc (Nat.le_refl _) (Obj.cells #[Value.int IntKind.i64 0, Value.int IntKind.i64 0, Value.int IntKind.u64 0] 137))
  have Hc := Lib.hid hc0
  clear hc hc0
  go_enter Tryd.func84, Tryd.ntmps84
  go_wp2_with (go_at_call 111; refine (of_calls _ 0 dists _ 30 _ rfl (by omega) (by omega) (by omega) (by omega) (by omega) (by omega) (fun j hj => by have := dists_range j hj; omega) (by show (1 : Int) ≤ _; omega) Hc.out).mono ?_; rintro e w' ⟨rfl, hb⟩; obtain ⟨c0, f0⟩ := laid_kept hb 0 _ rfl; obtain ⟨c1, f1⟩ := laid_kept hb 1 _ rfl; obtain ⟨c2, f2⟩ := laid_kept hb 2 _ rfl)
  all_goals
    have h5 : Below w.heap.size w w' := ((Below.refl _ _).alloc (Nat.le_refl _) _).trans (hb.mono (by simp))
    refine bodyPost_ret (v := .agg #[.int .i64 (symS 0 dists (clampD n)), .int .i64 (symB dists (clampD n)), .int .u64 (symX dists (clampD n))]) ?_ rfl ⟨rfl, ((h5.setCell (Nat.le_refl _) _).setCell (Nat.le_refl _) _).setCell (Nat.le_refl _) _⟩
    first
    | rw [clampD_lo (by omega)]
    | rw [clampD_hi (by omega)]
    | rw [clampD_in (by omega) (by omega)]
    simp [results, Tryd.results84, go_sem, c0, c1, c2]

set_option maxHeartbeats 400000 in
theorem Literal_calls (b : Int) (w : World) (h0 : 0 ≤ b) (h1 : b ≤ 255) :
    Calls Tryd.prog 82 #[.int .u8 b] w fun e w' =>
      e = .returned (.agg #[.int .i64 b, .int .i64 0, .int .u64 0]) ∧ Below w.heap.size w w' := by
  go_enter Tryd.func82, Tryd.ntmps82
  go_wp2
  exact bodyPost_ret (v := .agg #[.int .i64 b, .int .i64 0, .int .u64 0]) (by simp [results, Tryd.results82, go_sem]) rfl ⟨rfl, (Below.refl _ _).alloc (Nat.le_refl _) _⟩

/-- What 'LengthOf', 'DistanceOf' answer. -/
def lenOfE (s : Int) : Ending := if 257 ≤ s ∧ s ≤ 285 then .returned (.tuple #[.int .i64 (rowL lens (s - 257).toNat), .int .i64 (rowB lens (s - 257).toNat), .bool true]) else .returned (.tuple #[.int .i64 0, .int .i64 0, .bool false])
def distOfE (s : Int) : Ending := if 0 ≤ s ∧ s ≤ 29 then .returned (.tuple #[.int .i64 (rowL dists s.toNat), .int .i64 (rowB dists s.toNat), .bool true]) else .returned (.tuple #[.int .i64 0, .int .i64 0, .bool false])

set_option maxHeartbeats 400000 in
theorem LengthOf_calls (s : Int) (w : World) (hn : -9223372036854775808 ≤ s) (hn2 : s ≤ 9223372036854775807) (hc : RowsAt w 4 lens) :
    Calls Tryd.prog 124 #[.int .i64 s] w fun e w' => e = lenOfE s ∧ Below w.heap.size w w' := by
  have Hc := Lib.hid hc
  clear hc
  by_cases h : 257 ≤ s ∧ s ≤ 285
  · obtain ⟨ha, hb⟩ := h
    have he : lenOfE s = .returned (.tuple #[.int .i64 (rowL lens (s - 257).toNat), .int .i64 (rowB lens (s - 257).toNat), .bool true]) := if_pos ⟨ha, hb⟩
    rw [he]
    clear he
    obtain ⟨k, rfl⟩ : ∃ k : Nat, s = 257 + k := ⟨(s - 257).toNat, by omega⟩
    have hz : w.cell? ⟨4, (257 + k - 256 - 1) * 2, none⟩ = some (.int .i64 (rowL lens k)) := by rw [show 257 + k - 256 - 1 = k from by omega]; exact (Hc.out k (by rw [lens_length]; omega)).1
    have hz2 : w.cell? ⟨4, (257 + k - 256 - 1) * 2 + 1, none⟩ = some (.int .i64 (rowB lens k)) := by rw [show 257 + k - 256 - 1 = k from by omega]; exact (Hc.out k (by rw [lens_length]; omega)).2
    rw [show ((257 : Int) + k - 257).toNat = k from by omega]
    go_enter Tryd.func124, Tryd.ntmps124
    go_wp2
    go_region
    go_wp2
    go_ret3
    exact ⟨rfl, ((Below.refl _ _).alloc (Nat.le_refl _) _).drew⟩
  · rw [show lenOfE s = .returned (.tuple #[.int .i64 0, .int .i64 0, .bool false]) from if_neg h]
    by_cases h2 : s ≤ 256
    · go_enter Tryd.func124, Tryd.ntmps124
      go_wp2
      go_ret3
      exact ⟨rfl, Below.refl _ _⟩
    · have h3 : 286 ≤ s := by omega
      clear h
      go_enter Tryd.func124, Tryd.ntmps124
      go_wp2
      go_ret3
      exact ⟨rfl, Below.refl _ _⟩

set_option maxHeartbeats 400000 in
theorem DistanceOf_calls (s : Int) (w : World) (hn : -9223372036854775808 ≤ s) (hn2 : s ≤ 9223372036854775807) (hc : RowsAt w 5 dists) :
    Calls Tryd.prog 125 #[.int .i64 s] w fun e w' => e = distOfE s ∧ Below w.heap.size w w' := by
  have Hc := Lib.hid hc
  clear hc
  by_cases h : 0 ≤ s ∧ s ≤ 29
  · obtain ⟨ha, hb⟩ := h
    have he : distOfE s = .returned (.tuple #[.int .i64 (rowL dists s.toNat), .int .i64 (rowB dists s.toNat), .bool true]) := if_pos ⟨ha, hb⟩
    rw [he]
    clear he
    obtain ⟨k, rfl⟩ : ∃ k : Nat, s = k := ⟨s.toNat, by omega⟩
    have hz := (Hc.out k (by rw [dists_length]; omega)).1
    have hz2 := (Hc.out k (by rw [dists_length]; omega)).2
    rw [Int.toNat_natCast]
    go_enter Tryd.func125, Tryd.ntmps125
    go_wp2
    go_region
    go_wp2
    go_ret3
    exact ⟨rfl, (Below.refl _ _).drew⟩
  · rw [show distOfE s = .returned (.tuple #[.int .i64 0, .int .i64 0, .bool false]) from if_neg h]
    by_cases h2 : s < 0
    · go_enter Tryd.func125, Tryd.ntmps125
      go_wp2
      go_ret3
      exact ⟨rfl, Below.refl _ _⟩
    · have h3 : 30 ≤ s := by omega
      clear h
      go_enter Tryd.func125, Tryd.ntmps125
      go_wp2
      go_ret3
      exact ⟨rfl, Below.refl _ _⟩
end Go.Proofs.YtendohnkhbgfbaaDoor
/-
  The tables of the symbols, as the walks need them.
-/
namespace Go.Proofs.YtendohnkhbgfbaaDoor
open Go.RowKit

def Tabs (w : World) : Prop := RowsAt w 4 lens ∧ RowsAt w 5 dists
theorem Tabs.below {w w1 : World} (h : Tabs w) (hb : Below w.heap.size w w1) : Tabs w1 := ⟨h.1.below hb, h.2.below hb⟩
theorem Tabs.alloc {w : World} (h : Tabs w) (o : Obj) : Tabs (w.alloc o) := h.below ((Below.refl _ _).alloc (Nat.le_refl _) _)
end Go.Proofs.YtendohnkhbgfbaaDoor
/-
  The walk of syms.Fixed.
-/
namespace Go.Proofs.YtendohnkhbgfbaaDoor
open Go.RowKit

theorem elIntF : ElT Tryd.prog 99 3 (.int .i64 0) 1 8 := ⟨Tryd.underlying99, by kernel_rfl, rfl, by decide, by decide⟩
def fixAt (j : Nat) : Int := if j < 144 then 8 else if j < 256 then 9 else if j < 280 then 7 else 8
def fixA : List Int := (List.range 288).map fixAt
def fixB : List Int := List.replicate 32 5
theorem fixA_length : fixA.length = 288 := by simp [fixA]
theorem rd_fixA (j : Nat) (h : j < 288) : rd fixA j = fixAt j := by
  rw [rd_getElem (by rw [fixA_length]; exact h)]
  simp [fixA]
theorem rd_fixB (j : Nat) (h : j < 32) : rd fixB j = 5 := by
  rw [rd_getElem (by unfold fixB; rw [List.length_replicate]; exact h)]
  unfold fixB
  rw [List.getElem_replicate]
theorem right_fixA : rightB fixA = true := by kernel_rfl
theorem right_fixB : rightB fixB = true := by kernel_rfl

set_option maxHeartbeats 1000000 in
set_option maxRecDepth 100000 in
theorem Fixed_calls (w : World) :
    Calls Tryd.prog 52 #[] w fun e w' => ∃ ga gb, e = .returned (.tuple #[.slice (some ⟨ga, 0, none⟩) 288 288, .slice (some ⟨gb, 0, none⟩) 32 32]) ∧
      w'.ownsRow w.heap.size 3 1 (.slice (some ⟨ga, 0, none⟩) 288 288) 288 (ints .i64 fixA) ∧ w'.ownsRow w.heap.size 3 1 (.slice (some ⟨gb, 0, none⟩) 32 32) 32 (ints .i64 fixB) ∧ Below w.heap.size w w' := by
  go_enter Tryd.func52, Tryd.ntmps52
  go_upto_region 1 with fail
  go_cut [2, 3] from 6 to 7 (fun a b wx => ∃ ga gb, ga ≠ gb ∧ a = .slice (some ⟨ga, 0, none⟩) 288 288 ∧ b = .slice (some ⟨gb, 0, none⟩) 32 32 ∧ (∃ la, wx.ownsRow w.heap.size 3 1 a 288 (ints .i64 la)) ∧ (∃ lb, wx.ownsRow w.heap.size 3 1 b 32 (ints .i64 lb)) ∧ Below w.heap.size w wx)
  case first =>
    obtain ⟨oA, la, mA, _, rA⟩ := make_rule elIntF 288 288 rfl (by decide)
    obtain ⟨oB, lb, mB, _, rB⟩ := make_rule elIntF 32 32 rfl (by decide)
    go_wp2
    go_region
    · go_wp2
      go_meet
      exact ⟨w.heap.size, w.heap.size + 1, by omega, by simp, by simp, ⟨la, (rA.out w.drew _ _ rfl (Nat.le_refl _)).alloc _⟩, ⟨lb, rB.out (w.drew.alloc oA) _ _ (by simp) (by omega)⟩, below_new (below_new (Below.refl _ _).drew (Nat.le_refl _) _) (Nat.le_refl _) _⟩
    · go_wp2
      go_meet
      exact ⟨w.heap.size + 1, w.heap.size, by omega, by simp, by simp, ⟨la, rA.out (w.drew.alloc oB) _ _ (by simp) (by omega)⟩, ⟨lb, (rB.out w.drew _ _ rfl (Nat.le_refl _)).alloc _⟩, below_new (below_new (Below.refl _ _).drew (Nat.le_refl _) _) (Nat.le_refl _) _⟩
  case rest =>
    obtain ⟨ga, gb, hne, rfl, rfl, ⟨la, hownA⟩, ⟨lb, hownB⟩, hb⟩ := hcut
    have HA := Lib.hid hownA
    have HB := Lib.hid hownB
    have Hb := Lib.hid hb
    have hs := hb.size
    clear hownA hownB hb
    go_wp2
    go_loopw [10] (fun i wr => ∃ (k : Nat) (l : List Int), k ≤ 288 ∧ i = .int .i64 k ∧ wr.ownsRow w.heap.size 3 1 (.slice (some ⟨ga, 0, none⟩) 288 288) 288 (ints .i64 l) ∧ wr.ownsRow w.heap.size 3 1 (.slice (some ⟨gb, 0, none⟩) 32 32) 32 (ints .i64 lb) ∧ Hid (∀ j, j < k → rd l j = fixAt j) ∧ Below w.heap.size w wr) (fun i _ => 288 - (intOf i).toNat)
    case atStart => exact ⟨0, _, by omega, rfl, HA.out, HB.out, (fun j hj => by omega), Hb.out⟩
    case round =>
      obtain ⟨k, l, hk, rfl, hA, hB, Hl, hbel⟩ := hrel
      have hga := (hA.lt ga rfl).1
      have hll : l.length = 288 := by have := hA.1; simpa [ints] using this
      have HA := Lib.hid hA
      have HB := Lib.hid hB
      have Hbel := Lib.hid hbel
      clear hA hB hbel
      by_cases hlt : k < 288
      · have hf := HA.out.frozenAt k
        have hcell := HA.out.cellAt k (by omega)
        rw [ints_get (by omega)] at hcell
        by_cases h1 : k < 144
        · have hv : fixAt k = 8 := by unfold fixAt; rw [if_pos h1]
          go_wp2
          go_roundw
          case rel =>
            refine ⟨k + 1, l.set k 8, by omega, by go_num, by rw [ints_set]; exact (HA.out.stored k _).1, ownsRow_setCell_other HB.out (by simpa [Value.ownBlock] using hne.symm) _, ?_, Hbel.out.setCell hga _⟩
            intro j hj
            rw [rd_set (by omega)]
            split
            · rename_i e; rw [← e, hv]
            · exact Hl.out j (by omega)
          case measure => simp [intOf]; omega
        · by_cases h2 : k < 256
          · have hv : fixAt k = 9 := by unfold fixAt; rw [if_neg h1, if_pos h2]
            go_wp2
            go_roundw
            case rel =>
              refine ⟨k + 1, l.set k 9, by omega, by go_num, by rw [ints_set]; exact (HA.out.stored k _).1, ownsRow_setCell_other HB.out (by simpa [Value.ownBlock] using hne.symm) _, ?_, Hbel.out.setCell hga _⟩
              intro j hj
              rw [rd_set (by omega)]
              split
              · rename_i e; rw [← e, hv]
              · exact Hl.out j (by omega)
            case measure => simp [intOf]; omega
          · by_cases h3 : k < 280
            · have hv : fixAt k = 7 := by unfold fixAt; rw [if_neg h1, if_neg h2, if_pos h3]
              go_wp2
              go_roundw
              case rel =>
                refine ⟨k + 1, l.set k 7, by omega, by go_num, by rw [ints_set]; exact (HA.out.stored k _).1, ownsRow_setCell_other HB.out (by simpa [Value.ownBlock] using hne.symm) _, ?_, Hbel.out.setCell hga _⟩
                intro j hj
                rw [rd_set (by omega)]
                split
                · rename_i e; rw [← e, hv]
                · exact Hl.out j (by omega)
              case measure => simp [intOf]; omega
            · have hv : fixAt k = 8 := by unfold fixAt; rw [if_neg h1, if_neg h2, if_neg h3]
              go_wp2
              go_roundw
              case rel =>
                refine ⟨k + 1, l.set k 8, by omega, by go_num, by rw [ints_set]; exact (HA.out.stored k _).1, ownsRow_setCell_other HB.out (by simpa [Value.ownBlock] using hne.symm) _, ?_, Hbel.out.setCell hga _⟩
                intro j hj
                rw [rd_set (by omega)]
                split
                · rename_i e; rw [← e, hv]
                · exact Hl.out j (by omega)
              case measure => simp [intOf]; omega
      · obtain rfl : k = 288 := by omega
        have e : l = fixA := ext_rd (by rw [hll, fixA_length]) (fun j hj => by rw [Hl.out j (by omega), rd_fixA j (by omega)])
        subst e
        go_wp2
        obtain ⟨wo, hwo⟩ : ∃ wo : World, wo = wr := ⟨_, rfl⟩
        subst hwo
        go_loopw [37] (fun i wr => ∃ (k : Nat) (l : List Int), k ≤ 32 ∧ i = .int .i64 k ∧ wr.ownsRow w.heap.size 3 1 (.slice (some ⟨ga, 0, none⟩) 288 288) 288 (ints .i64 fixA) ∧ wr.ownsRow w.heap.size 3 1 (.slice (some ⟨gb, 0, none⟩) 32 32) 32 (ints .i64 l) ∧ Hid (∀ j, j < k → rd l j = 5) ∧ Below w.heap.size w wr) (fun i _ => 32 - (intOf i).toNat)
        case atStart => exact ⟨0, _, by omega, rfl, HA.out, HB.out, (fun j hj => by omega), Hbel.out⟩
        case round =>
          obtain ⟨k, l, hk, rfl, hA, hB, Hl, hbel⟩ := hrel
          have hgb := (hB.lt gb rfl).1
          have hll : l.length = 32 := by have := hB.1; simpa [ints] using this
          have HA := Lib.hid hA
          have HB := Lib.hid hB
          have Hbel := Lib.hid hbel
          clear hA hB hbel
          by_cases hlt : k < 32
          · have hf := HB.out.frozenAt k
            have hcell := HB.out.cellAt k (by omega)
            rw [ints_get (by omega)] at hcell
            go_wp2
            go_roundw
            case rel =>
              refine ⟨k + 1, l.set k 5, by omega, by go_num, ownsRow_setCell_other HA.out (by simpa [Value.ownBlock] using hne) _, by rw [ints_set]; exact (HB.out.stored k _).1, ?_, Hbel.out.setCell hgb _⟩
              intro j hj
              rw [rd_set (by omega)]
              split
              · rfl
              · exact Hl.out j (by omega)
            case measure => simp [intOf]; omega
          · obtain rfl : k = 32 := by omega
            have e : l = fixB := ext_rd (by rw [hll]; rfl) (fun j hj => by rw [Hl.out j (by omega), rd_fixB j (by omega)])
            subst e
            go_wp2
            refine bodyPost_ret (v := .tuple #[.slice (some ⟨ga, 0, none⟩) 288 288, .slice (some ⟨gb, 0, none⟩) 32 32]) (by simp [results, Tryd.results52, go_sem]) rfl ⟨_, _, rfl, HA.out, HB.out, Hbel.out⟩
end Go.Proofs.YtendohnkhbgfbaaDoor
/-
  What opening bits tells (no program).
-/
namespace Go.Proofs.YtendohnkhbgfbaaDoor
open Go.RowKit

/-- What a step tells, again and again. -/
def iter {σ ρ : Type} (step : σ → σ ⊕ ρ) : Nat → σ → Option ρ
  | 0, _ => none
  | f + 1, s => match step s with
    | .inr r => some r
    | .inl s' => iter step f s'
theorem iter_mono {σ ρ : Type} {step : σ → σ ⊕ ρ} : ∀ {f : Nat} {s : σ} {r : ρ}, iter step f s = some r → ∀ f', f ≤ f' → iter step f' s = some r := by
  intro f
  induction f with
  | zero => intro s r h; simp [iter] at h
  | succ f ih =>
    intro s r h f' hf
    obtain ⟨g, rfl⟩ : ∃ g, f' = g + 1 := ⟨f' - 1, by omega⟩
    unfold iter at h ⊢
    cases hs : step s with
    | inr r2 => rw [hs] at h; exact h
    | inl s2 => rw [hs] at h; exact ih h g (by omega)
theorem iter_inr {σ ρ : Type} {step : σ → σ ⊕ ρ} {s : σ} {r : ρ} (h : step s = .inr r) (f : Nat) : iter step (f + 1) s = some r := by unfold iter; rw [h]
theorem iter_inl {σ ρ : Type} {step : σ → σ ⊕ ρ} {s s' : σ} (h : step s = .inl s') (f : Nat) : iter step (f + 1) s = iter step f s' := by rw [iter, h]
/-- With a measure that falls it ends. -/
theorem iter_total {σ ρ : Type} {step : σ → σ ⊕ ρ} (m : σ → Nat) (hm : ∀ s s', step s = .inl s' → m s' < m s) : ∀ f s, m s < f → ∃ r, iter step f s = some r := by
  intro f
  induction f with
  | zero => intro s h; omega
  | succ f ih =>
    intro s h
    cases hs : step s with
    | inr r => exact ⟨r, iter_inr hs f⟩
    | inl s' =>
      rw [iter_inl hs]
      exact ih s' (by have := hm s s' hs; omega)
/-- Where it stands and what was told, or the first error. -/
abbrev Res := Except Int (Nat × List Int)
def numS (bs : List Int) (T q n : Nat) : Except Int (Nat × Nat) := if q + n ≤ T then .ok (numAt bs q n, q + n) else .error 2
def symN (xs bs : List Int) (T q : Nat) : Except Int (Nat × Nat) := match nextS xs bs q (T - q) with
  | some s => .ok (s, q + (rd xs s).toNat)
  | none => .error (if T - q < 15 then 2 else 3)
/-- What lies so far back, again so many times. -/
def copyT (d : Nat) : Nat → List Int → List Int
  | 0, o => o
  | n + 1, o => copyT d n (o ++ [rd o (o.length - d)])
theorem copyT_length (d : Nat) : ∀ n o, (copyT d n o).length = o.length + n := by
  intro n
  induction n with
  | zero => intro o; rfl
  | succ n ih => intro o; rw [copyT, ih, List.length_append]; simp; omega
theorem copyT_succ (d : Nat) : ∀ n o, copyT d (n + 1) o = copyT d n o ++ [rd (copyT d n o) ((copyT d n o).length - d)] := by
  intro n
  induction n with
  | zero => intro o; rfl
  | succ n ih => intro o; rw [copyT, ih (o ++ _)]; rfl
def rightT (b l d : Int) (n : Nat) : Bool := if l = 0 then decide (d = 0) else decide (b = 0 ∧ 3 ≤ l ∧ l ≤ 258 ∧ 1 ≤ d ∧ d ≤ 32768 ∧ d ≤ n)
def addT (b l d : Int) (o : List Int) : List Int := if l = 0 then o ++ [b] else copyT d.toNat l.toNat o
def addS (most : Int) (b l d : Int) (o : List Int) : Except Int (List Int) :=
  if rightT b l d o.length = false then .error 3 else if most < o.length + max l 1 then .error 4 else .ok (addT b l d o)
def addR (most : Int) (b l d : Int) (q : Nat) (o : List Int) : Res := match addS most b l d o with
  | .error e => .error e
  | .ok o' => .ok (q, o')
theorem addR_ok {most b l d : Int} {q : Nat} {o o' : List Int} (h : addS most b l d o = .ok o') : addR most b l d q o = .ok (q, o') := by unfold addR; rw [h]
theorem addR_err {most b l d : Int} {q : Nat} {o : List Int} {c : Int} (h : addS most b l d o = .error c) : addR most b l d q o = .error c := by unfold addR; rw [h]
/-- What is added to a distance, and the token. -/
def distL (bs : List Int) (T : Nat) (most L least : Int) (nb q : Nat) (o : List Int) : Res := match numS bs T q nb with
  | .error e => .error e
  | .ok (y, q3) => addR most 0 L (least + y) q3 o
/-- A distance's symbol, and what follows. -/
def distS (bs : List Int) (T : Nat) (most : Int) (ys : List Int) (L : Int) (q : Nat) (o : List Int) : Res :=
  if rightB ys = false then .error 3 else
  match symN ys bs T q with
  | .error e => .error e
  | .ok (d, q2) => if 30 ≤ d then .error 3 else distL bs T most L (rowL dists d) (rowB dists d).toNat q2 o
/-- What is added to a length, and what follows. -/
def matchL (bs : List Int) (T : Nat) (most : Int) (ys : List Int) (least : Int) (nb q : Nat) (o : List Int) : Res := match numS bs T q nb with
  | .error e => .error e
  | .ok (x, q1) => distS bs T most ys (least + x) q1 o
/-- A length's symbol, and what follows. -/
def matchS (bs : List Int) (T : Nat) (most : Int) (ys : List Int) (s q : Nat) (o : List Int) : Res :=
  if s ≤ 256 ∨ 286 ≤ s then .error 3 else matchL bs T most ys (rowL lens (s - 257)) (rowB lens (s - 257)).toNat q o
theorem numS_ok {bs : List Int} {T q n : Nat} (h : q + n ≤ T) : numS bs T q n = .ok (numAt bs q n, q + n) := by unfold numS; rw [if_pos h]
theorem numS_no {bs : List Int} {T q n : Nat} (h : T < q + n) : numS bs T q n = .error 2 := by unfold numS; rw [if_neg (by omega)]
theorem matchL_ok {bs : List Int} {T : Nat} {most : Int} {ys : List Int} {least : Int} {nb q : Nat} {o : List Int} (h : q + nb ≤ T) : matchL bs T most ys least nb q o = distS bs T most ys (least + numAt bs q nb) (q + nb) o := by unfold matchL; rw [numS_ok h]
theorem matchL_no {bs : List Int} {T : Nat} {most : Int} {ys : List Int} {least : Int} {nb q : Nat} {o : List Int} (h : T < q + nb) : matchL bs T most ys least nb q o = .error 2 := by unfold matchL; rw [numS_no h]
theorem distL_ok {bs : List Int} {T : Nat} {most L least : Int} {nb q : Nat} {o : List Int} (h : q + nb ≤ T) : distL bs T most L least nb q o = addR most 0 L (least + numAt bs q nb) (q + nb) o := by unfold distL; rw [numS_ok h]
theorem distL_no {bs : List Int} {T : Nat} {most L least : Int} {nb q : Nat} {o : List Int} (h : T < q + nb) : distL bs T most L least nb q o = .error 2 := by unfold distL; rw [numS_no h]
theorem distS_nil {bs : List Int} {T : Nat} {most : Int} {ys : List Int} {L : Int} {q : Nat} {o : List Int} (h : rightB ys = false) : distS bs T most ys L q o = .error 3 := by unfold distS; rw [if_pos h]
theorem distS_err {bs : List Int} {T : Nat} {most : Int} {ys : List Int} {L : Int} {q : Nat} {o : List Int} {c : Int} (h : rightB ys = true) (hs : symN ys bs T q = .error c) : distS bs T most ys L q o = .error c := by unfold distS; rw [if_neg (by rw [h]; decide), hs]
theorem distS_far {bs : List Int} {T : Nat} {most : Int} {ys : List Int} {L : Int} {q d q2 : Nat} {o : List Int} (h : rightB ys = true) (hs : symN ys bs T q = .ok (d, q2)) (hd : 30 ≤ d) : distS bs T most ys L q o = .error 3 := by
  unfold distS
  rw [if_neg (by rw [h]; decide), hs]
  simp only [if_pos hd]
theorem distS_ok {bs : List Int} {T : Nat} {most : Int} {ys : List Int} {L : Int} {q d q2 : Nat} {o : List Int} (h : rightB ys = true) (hs : symN ys bs T q = .ok (d, q2)) (hd : d < 30) : distS bs T most ys L q o = distL bs T most L (rowL dists d) (rowB dists d).toNat q2 o := by
  unfold distS
  rw [if_neg (by rw [h]; decide), hs]
  simp only [if_neg (show ¬ 30 ≤ d by omega)]
def codeStep (bs : List Int) (T : Nat) (most : Int) (xs ys : List Int) (p : Nat × List Int) : (Nat × List Int) ⊕ Res :=
  match symN xs bs T p.1 with
  | .error e => .inr (.error e)
  | .ok (s, q) =>
    if s = 256 then .inr (.ok (q, p.2)) else
    if s < 256 then
      match addS most s 0 0 p.2 with
      | .error e => .inr (.error e)
      | .ok o => .inl (q, o)
    else
      match matchS bs T most ys s q p.2 with
      | .error e => .inr (.error e)
      | .ok r => .inl r
def codedS (bs : List Int) (T : Nat) (most : Int) (xs ys : List Int) (q : Nat) (o : List Int) : Res :=
  if rightB xs = false then .error 3 else
  if rightB ys = false ∧ ys.any (fun y => y != 0) = true then .error 3 else
  (iter (codeStep bs T most xs ys) (T + 1) (q, o)).getD (.error 0)
/-- The next byte's first bit. -/
def upTo8 (q : Nat) : Nat := 8 * ((q + 7) / 8)
def storedS (bs : List Int) (T : Nat) (most : Int) (q : Nat) (o : List Int) : Res :=
  if T < upTo8 q + 32 then .error 2 else
  if numAt bs (upTo8 q) 16 ^^^ numAt bs (upTo8 q + 16) 16 ≠ 65535 then .error 3 else
  if most < o.length + numAt bs (upTo8 q) 16 then .error 4 else
  if T < upTo8 q + 32 + 8 * numAt bs (upTo8 q) 16 then .error 2 else
  .ok (upTo8 q + 32 + 8 * numAt bs (upTo8 q) 16, o ++ (bs.drop ((upTo8 q + 32) / 8)).take (numAt bs (upTo8 q) 16))
def blockS (bs : List Int) (T : Nat) (most : Int) (kind q : Nat) (o : List Int) : Res :=
  if kind = 0 then storedS bs T most q o else
  if kind = 1 then codedS bs T most fixA fixB q o else
  if kind = 2 then (match getS bs T q with
    | none => .error 3
    | some (xs, ys, q1) => codedS bs T most xs ys q1 o) else .error 3
def openStep (bs : List Int) (T : Nat) (most : Int) (p : Nat × List Int) : (Nat × List Int) ⊕ Res :=
  if T < p.1 + 3 then .inr (.error 2) else
  match blockS bs T most (numAt bs (p.1 + 1) 2) (p.1 + 3) p.2 with
  | .error e => .inr (.error e)
  | .ok r => if numAt bs p.1 1 = 0 then .inl r else .inr (.ok r)
def openS (bs : List Int) (most : Int) : Res := (iter (openStep bs (8 * bs.length) most) (8 * bs.length + 1) (0, [])).getD (.error 0)
end Go.Proofs.YtendohnkhbgfbaaDoor
/-
  The walk of bits.New.
-/
namespace Go.Proofs.YtendohnkhbgfbaaDoor
open Go.RowKit

theorem elU8 : ElT Tryd.prog 22 5 (.int .u8 0) 1 1 := ⟨Tryd.underlying22, by kernel_rfl, rfl, by decide, by decide⟩
theorem own_empty (w : World) (e : TypeId) : (w.alloc (.cells #[] e)).ownsRow w.heap.size e 1 (.slice (some ⟨w.heap.size, 0, none⟩) 0 0) 0 [] :=
  World.ownsRow_lit w #[] 0 (Nat.le_refl _) (by decide) rfl
set_option maxHeartbeats 1000000 in
theorem BNew_calls (A : Option Addr) (len cap : Nat) (bs : List Int) (w : World) (hB : Rd w .u8 A len bs) (hA : A = none → len = 0 ∧ cap = 0) (hlen : len ≤ 1000000) :
    Calls Tryd.prog 38 #[.slice A len cap] w fun e w' => ∃ r B c, e = .returned (.pointer (some ⟨r, 0, none⟩)) ∧ w.heap.size ≤ r ∧ RdrAt w' r B len c 0 ∧ w'.ownsRow w.heap.size 5 1 (.slice B len c) len (ints .u8 bs) ∧ Below w.heap.size w w' := by
  have HB := Lib.hid hB
  clear hB
  go_enter Tryd.func38, Tryd.ntmps38
  go_wp2_with (at_builtin; refine wpList_appRd rfl _ _ rfl elU8 (ys := []) (own_empty w _) rfl rfl (HB.out.alloc _) hA (by omega) (by simp) ?_; intro v' w' hown hg; rw [Nat.zero_add] at hown; obtain ⟨B, c, rfl⟩ := own_slice hown; have Hown := Lib.hid hown; have Hg := Lib.hid hg; clear hown hg)
  have hsz : w.heap.size ≤ w'.heap.size := by have := Hg.out.size; simp at this; omega
  have hb1 : Below w.heap.size w w' := ((Below.refl _ _).alloc (Nat.le_refl _) _).grown Hg.out (by simp) (fun k hk => by simp [Value.ownBlock] at hk; omega)
  go_ret
  exact ⟨w'.heap.size, B, c, rfl, hsz, heap_alloc_new w' _, Hown.out.alloc _, below_new hb1 (Nat.le_refl _) _⟩
end Go.Proofs.YtendohnkhbgfbaaDoor
/-
  The walks of the reference's bits (inkwellref01): Low, Of.
-/
namespace Go.Proofs.YtendohnkhbgfbaaDoor
open Go.RowKit

theorem elB : ElT Tryd.prog 22 5 (.int .u8 0) 1 1 := ⟨Tryd.underlying22, by kernel_rfl, rfl, by decide, by decide⟩
/-- The lowest bits of a number. -/
def lowOf (x n : Nat) : List Int := (List.range n).map fun i => ((x / 2 ^ i % 2 : Nat) : Int)
theorem lowOf_length (x n : Nat) : (lowOf x n).length = n := by simp [lowOf]
theorem lowOf_succ (x n : Nat) : lowOf x (n + 1) = lowOf x n ++ [((x / 2 ^ n % 2 : Nat) : Int)] := by simp [lowOf, List.range_succ]
set_option maxHeartbeats 1000000 in
set_option maxRecDepth 100000 in
theorem Low_calls (x n : Nat) (w : World) (hx : x < 18446744073709551616) (hn : n ≤ 64) :
    Calls Tryd.prog 96 #[.int .u64 x, .int .i64 n] w fun e w' => ∃ v, e = .returned v ∧ w'.ownsRow w.heap.size 5 1 v n (ints .u8 (lowOf x n)) ∧ Below w.heap.size w w' := by
  go_enter Tryd.func96, Tryd.ntmps96
  go_wp2
  go_loopw [0, 5, 6] (fun y v i wr => ∃ k : Nat, k ≤ n ∧ i = .int .i64 k ∧ y = .int .u64 (x / 2 ^ k : Nat) ∧ Hid (wr.ownsRow w.heap.size 5 1 v k (ints .u8 (lowOf x k))) ∧ Hid (Below w.heap.size w wr)) (fun _ _ i _ => n - (intOf i).toNat)
  case atStart => exact ⟨0, by omega, rfl, by simp, World.ownsRow_nil _ _ _ _, Below.refl _ _⟩
  case round =>
    obtain ⟨k, hk, rfl, rfl, Hown, Hbel⟩ := hrel
    have hsz := Hbel.out.size
    by_cases hlt : k < n
    · obtain ⟨y, hy⟩ : ∃ y : Nat, y = x / 2 ^ k := ⟨_, rfl⟩
      have hyx : y ≤ x := by rw [hy]; exact Nat.div_le_self _ _
      have hnx : x / 2 ^ (k + 1) = y / 2 := by rw [hy, Nat.div_div_eq_div_mul, Nat.pow_succ]
      have hlw := lowOf_succ x k
      rw [← hy] at hlw ⊢
      have Hnx := Lib.hid hnx
      have Hlw := Lib.hid hlw
      clear hnx hlw hy
      obtain ⟨A, c, rfl⟩ := own_slice Hown.out
      obtain ⟨z, hz, hz1, Hz⟩ : ∃ z : Nat, (y : Int) % 2 = (z : Int) ∧ z ≤ 1 ∧ Hid (y % 2 = z) := ⟨y % 2, by omega, by omega, rfl⟩
      rw [Hz.out] at Hlw
      go_wp2_with (at_builtin; refine wpList_app1 rfl _ _ rfl elB Hown.out rfl rfl rfl rfl (by omega) hsz ?_; intro v' w' hown' hbel' _)
      go_roundw
      case rel => exact ⟨k + 1, by omega, by go_num, by rw [Hnx.out]; go_num, by rw [Hlw.out, ints_append]; exact hown', Hbel.out.trans hbel'⟩
      case measure => simp [intOf]; omega
    · obtain rfl : k = n := by omega
      go_wp2
      go_ret
      exact ⟨_, rfl, Hown.out, Hbel.out⟩
/-- The bits of bytes, so many of them. -/
def bitsOf (bs : List Int) (p m : Nat) : List Int := (List.range m).map fun i => ((bitAt bs (p + i) : Nat) : Int)
theorem bitsOf_length (bs : List Int) (p m : Nat) : (bitsOf bs p m).length = m := by simp [bitsOf]
theorem rd_bitsOf {bs : List Int} {p m i : Nat} (h : i < m) : rd (bitsOf bs p m) i = ((bitAt bs (p + i) : Nat) : Int) := by
  rw [rd_getElem (by rw [bitsOf_length]; exact h)]
  simp [bitsOf]
theorem bitsOf_next (bs : List Int) (k : Nat) : bitsOf bs 0 (8 * (k + 1)) = bitsOf bs 0 (8 * k) ++ lowOf (rd bs k).toNat 8 := by
  apply ext_rd (by rw [List.length_append, bitsOf_length, bitsOf_length, lowOf_length]; omega)
  intro j hj
  rw [bitsOf_length] at hj
  rw [rd_bitsOf hj]
  rcases Nat.lt_or_ge j (8 * k) with g | g
  · rw [rd_appL (by rw [bitsOf_length]; exact g), rd_bitsOf g]
  · obtain ⟨i, rfl⟩ : ∃ i, j = 8 * k + i := ⟨j - 8 * k, by omega⟩
    have e : 8 * k + i = (bitsOf bs 0 (8 * k)).length + i := by rw [bitsOf_length]
    rw [e, rd_appR, ← e, rd_getElem (by rw [lowOf_length]; omega)]
    simp only [lowOf, List.getElem_map, List.getElem_range]
    unfold bitAt
    rw [show (0 + (8 * k + i)) / 8 = k from by omega, show (0 + (8 * k + i)) % 8 = i from by omega]
end Go.Proofs.YtendohnkhbgfbaaDoor
/-
  What a reader, a coder, and the bits that are left, keep; a frame by frames.
-/
namespace Go.Proofs.YtendohnkhbgfbaaDoor
open Go.RowKit

theorem Coder.below {w w1 : World} {base h : Nat} {xs : List Int} (hc : Coder w base h xs) (hb : Below w.heap.size w w1) : Coder w1 base h xs := by
  obtain ⟨m, v, h1, h2, h3, h4, h5⟩ := hc
  exact ⟨m, v, h1, h2, h3.below hb h3.lt, h4, own_below h5 hb⟩
theorem Coder.grown {w w1 : World} {base h r : Nat} {xs : List Int} {A : Option Addr} {len cap p : Nat} (hc : Coder w base h xs) (hR : RdrAt w r A len cap p) (hg : w.grownBy w1 (some r)) (hhr : h ≠ r) : Coder w1 base h xs := by
  obtain ⟨m, v, h1, h2, h3, h4, h5⟩ := hc
  exact ⟨m, v, h1, h2, (hg.block h h3.lt (by simpa using hhr)).trans h3, h4, h5.kept hg (.inr (own_ne hR (by decide) h5))⟩
theorem Coder.lt {w : World} {base h : Nat} {xs : List Int} (hc : Coder w base h xs) : h < w.heap.size := by
  obtain ⟨m, v, h1, h2, h3, h4, h5⟩ := hc
  exact h3.lt
/-- The bits that are left. -/
def RestAt (w : World) (r : Nat) (A : Option Addr) (m : Nat) (bs : List Int) (p : Nat) : Prop := Rd w .u8 A m (bitsOf bs p m) ∧ ∀ b o, A = some ⟨b, o, none⟩ → b ≠ r
theorem RestAt.below {w w1 : World} {r : Nat} {A : Option Addr} {m : Nat} {bs : List Int} {p : Nat} (h : RestAt w r A m bs p) (hb : Below w.heap.size w w1) : RestAt w1 r A m bs p := ⟨h.1.below hb, h.2⟩
theorem RestAt.grown {w w1 : World} {r : Nat} {A : Option Addr} {m : Nat} {bs : List Int} {p : Nat} (h : RestAt w r A m bs p) (hg : w.grownBy w1 (some r)) : RestAt w1 r A m bs p := ⟨h.1.grown hg h.2, h.2⟩
theorem RestAt.next {w : World} {r b o m : Nat} {bs : List Int} {p : Nat} (h : RestAt w r (some ⟨b, o, none⟩) m bs p) (k : Nat) (hk : k ≤ m) : RestAt w r (some ⟨b, o + k, none⟩) (m - k) bs (p + k) := by
  refine ⟨⟨by rw [bitsOf_length], fun hm => ⟨b, o + k, rfl, fun j hj => ?_⟩⟩, fun b' o' e => ?_⟩
  · obtain ⟨b', o', e, hc⟩ := h.1.2 (by omega)
    cases e
    have h9 := hc (k + j) (by omega)
    rw [rd_bitsOf (by omega)] at h9
    rw [rd_bitsOf hj, Nat.add_assoc, Nat.add_assoc]
    exact h9
  · cases e
    exact h.2 b o rfl
theorem RestAt.empty {w : World} {r b o m : Nat} {bs : List Int} {p : Nat} (h : RestAt w r (some ⟨b, o, none⟩) m bs p) (p' : Nat) : RestAt w r (some ⟨b, o, none⟩) 0 bs p' := ⟨⟨by rw [bitsOf_length], fun h => by omega⟩, h.2⟩
theorem grown_fr {w wr w' : World} {row : Option Nat} {S : List (Option Nat)} (h : w.grownBy wr row) (hf : Fr wr w' S) (hS : ∀ o ∈ S, ∀ j, o = some j → w.heap.size ≤ j) : w.grownBy w' row :=
  ⟨hf.os.trans h.os, hf.tape.trans h.tape, hf.output.trans h.output, Nat.le_trans h.size hf.size, fun k hk hne => (hf.block k (Nat.lt_of_lt_of_le hk h.size) (fun o ho e => by
    have := hS o ho k e
    omega)).trans (h.block k hk hne)⟩
theorem RdrAt.fr {w w' : World} {r : Nat} {A : Option Addr} {len cap p : Nat} {S : List (Option Nat)} (h : RdrAt w r A len cap p) (hf : Fr w w' S) (hS : ∀ o ∈ S, o ≠ some r) : RdrAt w' r A len cap p := (hf.block r h.lt hS).trans h
theorem own_far {w : World} {base n : Nat} {e : TypeId} {size : Nat} {v : Value} {xs : List Value} (h : w.ownsRow base e size v n xs) {B : Nat} (hB : B ≤ base) : ∀ o ∈ [v.ownBlock], ∀ j, o = some j → B ≤ j := fun o ho j e => by
  simp at ho
  subst ho
  have := (h.lt _ e).1
  omega
theorem own_cap {w : World} {base n : Nat} {e : TypeId} {size : Nat} {v : Value} {xs : List Value} (h : w.ownsRow base e size v n xs) : ∀ A m c, v = .slice A m c → c ≤ 9223372036854775807 := fun A m c hv => by
  rcases h.2 with ⟨rfl, _⟩ | ⟨g, cap, cur, rfl, _, _, _, h4, _⟩
  · cases hv; omega
  · cases hv
    have : maxLen = 9223372036854775807 := by decide
    omega
end Go.Proofs.YtendohnkhbgfbaaDoor
