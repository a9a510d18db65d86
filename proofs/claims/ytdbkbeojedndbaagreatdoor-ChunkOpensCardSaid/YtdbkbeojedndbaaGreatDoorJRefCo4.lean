/-
  Texts joined into one file: SymsW, Ref07W, GetP, LzP, Tabs, FixW.
-/
import Derived.Test.YtdbkbeojedndbaaGreatDoorJRefCo1
import Derived.Test.YtdbkbeojedndbaaGreatDoorJRefCo3
import Derived.WalkKit
import Derived.WalkSpells
import Derived.WalkLawsBesides
import Derived.Deep.QuietTactic
import Derived.BigQuiet
import Derived.Lib.Hide
import Derived.OneCell
import Derived.Deep.RegionWith
import Derived.Deep.Cut
import Derived.Deep.CutRange
import Derived.Deep.CutBlock
namespace Go.Proofs.YtdbkbeojedndbaaGreatDoor
open Go.RowKit

def RowsAt (w : World) (g : Nat) (rows : List (Int × Int)) : Prop :=
  ∀ j, j < rows.length → w.cell? ⟨g, j * 2, none⟩ = some (.int .i64 (rowL rows j)) ∧ w.cell? ⟨g, j * 2 + 1, none⟩ = some (.int .i64 (rowB rows j))
theorem RowsAt.below {w w1 : World} {g : Nat} {rows : List (Int × Int)} (h : RowsAt w g rows) (hb : Below w.heap.size w w1) : RowsAt w1 g rows :=
  fun j hj => ⟨(hb.cell (World.block_lt_of_cell? w _ (h j hj).1)).trans (h j hj).1, (hb.cell (World.block_lt_of_cell? w _ (h j hj).2)).trans (h j hj).2⟩

set_option maxHeartbeats 400000 in
theorem of_calls (n first : Int) (rows : List (Int × Int)) (g len : Nat) (w : World) (hlen : rows.length = len) (hn : 0 ≤ n) (hn2 : n ≤ 40000) (hf : 0 ≤ first) (hf2 : first ≤ 1000) (hl : 0 < len) (hl2 : len ≤ 100)
   (hr : ∀ j, j < len → 0 ≤ rowL rows j ∧ rowL rows j ≤ 40000)
   (hr0 : rowL rows 0 ≤ n) (hc : RowsAt w g rows) :
    Calls Tryz.prog 95 #[.int .i64 n, .int .i64 first, .slice (some ⟨g, 0, none⟩) len len] w fun e w' =>
      e = .returned (.agg #[.int .i64 (symS first rows n), .int .i64 (symB rows n), .int .u64 (symX rows n)]) ∧ Below w.heap.size w w' := by
  have hc0 := hc.below ((Below.refl w.heap.size w).alloc (Nat.le_refl _) (Obj.cells #[Value.int IntKind.i64 0, Value.int IntKind.i64 0, Value.int IntKind.u64 0] 118))
  have Hc := Lib.hid hc0
  have Hr := Lib.hid hr
  have Hr0 := Lib.hid hr0
  have Hlen := Lib.hid hlen
  clear hc hc0 hr hr0 hlen
  go_enter Tryz.func95, Tryz.ntmps95
  go_wp2
  go_loop [7] (fun i => ∃ k : Nat, k < len ∧ i = .int .i64 k ∧ Hid (lastLe rows n len = lastLe rows n (k + 1))) (fun i => (intOf i).toNat)
  case atStart => exact ⟨len - 1, by omega, by congr 1; omega, by show _ = _; congr 1; omega⟩
  case round =>
    obtain ⟨k, hk, rfl, hall⟩ := hrel
    have hz := (Hc.out k (Hlen.out ▸ hk)).1
    have hz2 := (Hc.out k (Hlen.out ▸ hk)).2
    have hb := Hr.out k hk
    go_wp2
    · go_round
      case rel =>
        have h1 : 0 < k := by assumption
        have h2 : n < rowL rows k := by assumption
        refine ⟨k - 1, by omega, by go_num, ?_⟩
        have h3 := hall.out
        rw [lastLe_miss rows n k h2] at h3
        rw [show k - 1 + 1 = k from by omega]
        exact h3
      case measure => simp [intOf]; omega
    all_goals
      have Hk : Hid (lastLe rows n len = k) := by
        first
        | exact (hall.out.trans (lastLe_hit rows n k (by assumption)))
        | (obtain rfl : k = 0 := by omega
           exact hall.out.trans (lastLe_one rows n))
      have h2 : rowL rows k ≤ n := by
        first
        | assumption
        | (obtain rfl : k = 0 := by omega
           exact Hr0.out)
      clear hall
      go_region
      go_wp2
      refine bodyPost_ret (v := .agg #[.int .i64 (first + k), .int .i64 (rowB rows k), .int .u64 (n - rowL rows k)]) (by simp [results, Tryz.results95, go_sem]) rfl ⟨?_, ((Below.refl _ _).alloc (Nat.le_refl _) _).drew⟩
      have hk3 := Hk.out
      unfold symS symB symX
      rw [Hlen.out, hk3]

set_option maxHeartbeats 400000 in
theorem Length_calls (n : Int) (w : World) (hn : -9223372036854775808 ≤ n) (hn2 : n ≤ 9223372036854775807) (hc : RowsAt w 1 lens) :
    Calls Tryz.prog 73 #[.int .i64 n] w fun e w' =>
      e = .returned (.agg #[.int .i64 (symS 257 lens (clampL n)), .int .i64 (symB lens (clampL n)), .int .u64 (symX lens (clampL n))]) ∧ Below w.heap.size w w' := by
  have hc0 := hc.below ((Below.refl w.heap.size w).alloc (Nat.le_refl _) (Obj.cells #[Value.int IntKind.i64 0, Value.int IntKind.i64 0, Value.int IntKind.u64 0] 118))
  have Hc := Lib.hid hc0
  clear hc hc0
  go_enter Tryz.func73, Tryz.ntmps73
  go_wp2_with (go_at_call 95; refine (of_calls _ 257 lens _ 29 _ rfl (by omega) (by omega) (by omega) (by omega) (by omega) (by omega) (fun j hj => by have := lens_range j hj; omega) (by show (3 : Int) ≤ _; omega) Hc.out).mono ?_; rintro e w' ⟨rfl, hb⟩; obtain ⟨c0, f0⟩ := laid_kept hb 0 _ rfl; obtain ⟨c1, f1⟩ := laid_kept hb 1 _ rfl; obtain ⟨c2, f2⟩ := laid_kept hb 2 _ rfl)
  all_goals
    have h5 : Below w.heap.size w w' := ((Below.refl _ _).alloc (Nat.le_refl _) _).trans (hb.mono (by simp))
    refine bodyPost_ret (v := .agg #[.int .i64 (symS 257 lens (clampL n)), .int .i64 (symB lens (clampL n)), .int .u64 (symX lens (clampL n))]) ?_ rfl ⟨rfl, ((h5.setCell (Nat.le_refl _) _).setCell (Nat.le_refl _) _).setCell (Nat.le_refl _) _⟩
    first
    | rw [clampL_lo (by omega)]
    | rw [clampL_hi (by omega)]
    | rw [clampL_in (by omega) (by omega)]
    simp [results, Tryz.results73, go_sem, c0, c1, c2]

set_option maxHeartbeats 400000 in
theorem Distance_calls (n : Int) (w : World) (hn : -9223372036854775808 ≤ n) (hn2 : n ≤ 9223372036854775807) (hc : RowsAt w 2 dists) :
    Calls Tryz.prog 74 #[.int .i64 n] w fun e w' =>
      e = .returned (.agg #[.int .i64 (symS 0 dists (clampD n)), .int .i64 (symB dists (clampD n)), .int .u64 (symX dists (clampD n))]) ∧ Below w.heap.size w w' := by
  have hc0 := hc.below ((Below.refl w.heap.size w).alloc (Nat.le_refl _) (Obj.cells #[Value.int IntKind.i64 0, Value.int IntKind.i64 0, Value.int IntKind.u64 0] 118))
  have Hc := Lib.hid hc0
  clear hc hc0
  go_enter Tryz.func74, Tryz.ntmps74
  go_wp2_with (go_at_call 95; refine (of_calls _ 0 dists _ 30 _ rfl (by omega) (by omega) (by omega) (by omega) (by omega) (by omega) (fun j hj => by have := dists_range j hj; omega) (by show (1 : Int) ≤ _; omega) Hc.out).mono ?_; rintro e w' ⟨rfl, hb⟩; obtain ⟨c0, f0⟩ := laid_kept hb 0 _ rfl; obtain ⟨c1, f1⟩ := laid_kept hb 1 _ rfl; obtain ⟨c2, f2⟩ := laid_kept hb 2 _ rfl)
  all_goals
    have h5 : Below w.heap.size w w' := ((Below.refl _ _).alloc (Nat.le_refl _) _).trans (hb.mono (by simp))
    refine bodyPost_ret (v := .agg #[.int .i64 (symS 0 dists (clampD n)), .int .i64 (symB dists (clampD n)), .int .u64 (symX dists (clampD n))]) ?_ rfl ⟨rfl, ((h5.setCell (Nat.le_refl _) _).setCell (Nat.le_refl _) _).setCell (Nat.le_refl _) _⟩
    first
    | rw [clampD_lo (by omega)]
    | rw [clampD_hi (by omega)]
    | rw [clampD_in (by omega) (by omega)]
    simp [results, Tryz.results74, go_sem, c0, c1, c2]

set_option maxHeartbeats 400000 in
theorem Literal_calls (b : Int) (w : World) (h0 : 0 ≤ b) (h1 : b ≤ 255) :
    Calls Tryz.prog 72 #[.int .u8 b] w fun e w' =>
      e = .returned (.agg #[.int .i64 b, .int .i64 0, .int .u64 0]) ∧ Below w.heap.size w w' := by
  go_enter Tryz.func72, Tryz.ntmps72
  go_wp2
  exact bodyPost_ret (v := .agg #[.int .i64 b, .int .i64 0, .int .u64 0]) (by simp [results, Tryz.results72, go_sem]) rfl ⟨rfl, (Below.refl _ _).alloc (Nat.le_refl _) _⟩

def lenOfE (s : Int) : Ending := if 257 ≤ s ∧ s ≤ 285 then .returned (.tuple #[.int .i64 (rowL lens (s - 257).toNat), .int .i64 (rowB lens (s - 257).toNat), .bool true]) else .returned (.tuple #[.int .i64 0, .int .i64 0, .bool false])
def distOfE (s : Int) : Ending := if 0 ≤ s ∧ s ≤ 29 then .returned (.tuple #[.int .i64 (rowL dists s.toNat), .int .i64 (rowB dists s.toNat), .bool true]) else .returned (.tuple #[.int .i64 0, .int .i64 0, .bool false])

set_option maxHeartbeats 400000 in
theorem LengthOf_calls (s : Int) (w : World) (hn : -9223372036854775808 ≤ s) (hn2 : s ≤ 9223372036854775807) (hc : RowsAt w 1 lens) :
    Calls Tryz.prog 87 #[.int .i64 s] w fun e w' => e = lenOfE s ∧ Below w.heap.size w w' := by
  have Hc := Lib.hid hc
  clear hc
  by_cases h : 257 ≤ s ∧ s ≤ 285
  · obtain ⟨ha, hb⟩ := h
    have he : lenOfE s = .returned (.tuple #[.int .i64 (rowL lens (s - 257).toNat), .int .i64 (rowB lens (s - 257).toNat), .bool true]) := if_pos ⟨ha, hb⟩
    rw [he]
    clear he
    obtain ⟨k, rfl⟩ : ∃ k : Nat, s = 257 + k := ⟨(s - 257).toNat, by omega⟩
    have hz : w.cell? ⟨1, (257 + k - 256 - 1) * 2, none⟩ = some (.int .i64 (rowL lens k)) := by rw [show 257 + k - 256 - 1 = k from by omega]; exact (Hc.out k (by rw [lens_length]; omega)).1
    have hz2 : w.cell? ⟨1, (257 + k - 256 - 1) * 2 + 1, none⟩ = some (.int .i64 (rowB lens k)) := by rw [show 257 + k - 256 - 1 = k from by omega]; exact (Hc.out k (by rw [lens_length]; omega)).2
    rw [show ((257 : Int) + k - 257).toNat = k from by omega]
    go_enter Tryz.func87, Tryz.ntmps87
    go_wp2
    go_region
    go_wp2
    go_ret3
    exact ⟨rfl, ((Below.refl _ _).alloc (Nat.le_refl _) _).drew⟩
  · rw [show lenOfE s = .returned (.tuple #[.int .i64 0, .int .i64 0, .bool false]) from if_neg h]
    by_cases h2 : s ≤ 256
    · go_enter Tryz.func87, Tryz.ntmps87
      go_wp2
      go_ret3
      exact ⟨rfl, Below.refl _ _⟩
    · have h3 : 286 ≤ s := by omega
      clear h
      go_enter Tryz.func87, Tryz.ntmps87
      go_wp2
      go_ret3
      exact ⟨rfl, Below.refl _ _⟩

set_option maxHeartbeats 400000 in
theorem DistanceOf_calls (s : Int) (w : World) (hn : -9223372036854775808 ≤ s) (hn2 : s ≤ 9223372036854775807) (hc : RowsAt w 2 dists) :
    Calls Tryz.prog 88 #[.int .i64 s] w fun e w' => e = distOfE s ∧ Below w.heap.size w w' := by
  have Hc := Lib.hid hc
  clear hc
  by_cases h : 0 ≤ s ∧ s ≤ 29
  · obtain ⟨ha, hb⟩ := h
    have he : distOfE s = .returned (.tuple #[.int .i64 (rowL dists s.toNat), .int .i64 (rowB dists s.toNat), .bool true]) := if_pos ⟨ha, hb⟩
    rw [he]
    clear he
    obtain ⟨k, rfl⟩ : ∃ k : Nat, s = k := ⟨s.toNat, by omega⟩
    have hz := (Hc.out k (by rw [dists_length]; omega)).1
    have hz2 := (Hc.out k (by rw [dists_length]; omega)).2
    rw [Int.toNat_natCast]
    go_enter Tryz.func88, Tryz.ntmps88
    go_wp2
    go_region
    go_wp2
    go_ret3
    exact ⟨rfl, (Below.refl _ _).drew⟩
  · rw [show distOfE s = .returned (.tuple #[.int .i64 0, .int .i64 0, .bool false]) from if_neg h]
    by_cases h2 : s < 0
    · go_enter Tryz.func88, Tryz.ntmps88
      go_wp2
      go_ret3
      exact ⟨rfl, Below.refl _ _⟩
    · have h3 : 30 ≤ s := by omega
      clear h
      go_enter Tryz.func88, Tryz.ntmps88
      go_wp2
      go_ret3
      exact ⟨rfl, Below.refl _ _⟩
end Go.Proofs.YtdbkbeojedndbaaGreatDoor
namespace Go.Proofs.YtdbkbeojedndbaaGreatDoor
open Go.RowKit

def rowCells (rows : List (Int × Int)) : List Value := rows.flatMap fun r => [.int .i64 r.1, .int .i64 r.2]
theorem rowCells_length (rows : List (Int × Int)) : (rowCells rows).length = rows.length * 2 := by
  induction rows with
  | nil => rfl
  | cons r rows ih => simp [rowCells] at *; omega
theorem rowCells_append (r s : List (Int × Int)) : rowCells (r ++ s) = rowCells r ++ rowCells s := by simp [rowCells]
theorem elRow : ElT Tryz.prog 56 55 (.agg #[.int .i64 0, .int .i64 0]) 2 16 := ⟨Tryz.underlying56, by kernel_rfl, rfl, by decide, by decide⟩

theorem take_rows (rows : List (Int × Int)) (k : Nat) (h : k < rows.length) : rowCells (rows.take (k + 1)) = rowCells (rows.take k) ++ [.int .i64 (rowL rows k), .int .i64 (rowB rows k)] := by
  rw [List.take_succ_eq_append_getElem h, rowCells_append]
  simp [rowCells, rowL, rowB, List.getD_eq_getElem?_getD, List.getElem?_eq_getElem h]
theorem lens_bits : ∀ k : Nat, k < 28 → (if (k : Int) / 4 - 1 < 0 then 0 else (k : Int) / 4 - 1) = rowB lens k := by decide
theorem lens_next : ∀ k : Nat, k < 28 → k + 1 < 28 → wrap64 (rowL lens k + wrap64 (2 ^ (if (k : Int) / 4 - 1 < 0 then 0 else (k : Int) / 4 - 1).toNat)) = rowL lens (k + 1) := by decide +kernel
theorem dists_bits : ∀ k : Nat, k < 30 → (if (k : Int) / 2 - 1 < 0 then 0 else (k : Int) / 2 - 1) = rowB dists k := by decide
theorem dists_next : ∀ k : Nat, k < 30 → k + 1 < 30 → wrap64 (rowL dists k + wrap64 (2 ^ (if (k : Int) / 2 - 1 < 0 then 0 else (k : Int) / 2 - 1).toNat)) = rowL dists (k + 1) := by decide +kernel

set_option maxHeartbeats 400000 in
set_option maxRecDepth 100000 in
theorem rLengths_calls (w : World) :
    Calls Tryz.prog 23 #[] w fun e w' => ∃ v, e = .returned v ∧ w'.ownsRow w.heap.size 55 2 v 29 (rowCells lens) ∧ Below w.heap.size w w' := by
  go_enter Tryz.func23, Tryz.ntmps23
  go_wp2
  go_loopw [1, 2, 3] (fun v l i wr => ∃ k : Nat, k ≤ 28 ∧ i = .int .i64 k ∧ (k < 28 → l = .int .i64 (rowL lens k)) ∧ wr.ownsRow w.heap.size 55 2 v k (rowCells (lens.take k)) ∧ Below w.heap.size w wr) (fun _ _ i _ => 28 - (intOf i).toNat)
  case atStart => exact ⟨0, by omega, rfl, fun _ => rfl, World.ownsRow_nil _ _ _ _, Below.refl _ _⟩
  case round =>
    obtain ⟨k, hk, rfl, hl, hown, hbel⟩ := hrel
    have Hown := Lib.hid hown
    have Hbel := Lib.hid hbel
    have hsz := hbel.size
    clear hown hbel
    by_cases hlt : k < 28
    · obtain rfl := hl hlt
      have hr := lens_range k (by omega)
      clear hl
      go_wp2_with (at_builtin; refine wpList_app1 rfl _ _ rfl elRow Hown.out rfl rfl rfl rfl (by omega) (by omega) ?_; intro v' w' hown' hbel' _)
      go_roundw
      case rel =>
        rw [lens_bits k hlt] at hown'
        exact ⟨k + 1, by omega, by go_num, fun h => by rw [lens_next k hlt h], by rw [take_rows lens k (by rw [lens_length]; omega)]; exact hown', Hbel.out.trans hbel'⟩
      case measure => simp [intOf]; omega
    · obtain rfl : k = 28 := by omega
      clear hl
      go_wp2_with (at_builtin; refine wpList_app1 rfl _ _ rfl elRow Hown.out rfl rfl rfl rfl (by omega) (by omega) ?_; intro v' w' hown' hbel' _)
      go_ret
      exact ⟨v', rfl, hown', Hbel.out.trans hbel'⟩

set_option maxHeartbeats 400000 in
set_option maxRecDepth 100000 in
theorem rDistances_calls (w : World) :
    Calls Tryz.prog 24 #[] w fun e w' => ∃ v, e = .returned v ∧ w'.ownsRow w.heap.size 55 2 v 30 (rowCells dists) ∧ Below w.heap.size w w' := by
  go_enter Tryz.func24, Tryz.ntmps24
  go_wp2
  go_loopw [1, 2, 3] (fun v l i wr => ∃ k : Nat, k ≤ 30 ∧ i = .int .i64 k ∧ (k < 30 → l = .int .i64 (rowL dists k)) ∧ wr.ownsRow w.heap.size 55 2 v k (rowCells (dists.take k)) ∧ Below w.heap.size w wr) (fun _ _ i _ => 30 - (intOf i).toNat)
  case atStart => exact ⟨0, by omega, rfl, fun _ => rfl, World.ownsRow_nil _ _ _ _, Below.refl _ _⟩
  case round =>
    obtain ⟨k, hk, rfl, hl, hown, hbel⟩ := hrel
    have Hown := Lib.hid hown
    have Hbel := Lib.hid hbel
    have hsz := hbel.size
    clear hown hbel
    by_cases hlt : k < 30
    · obtain rfl := hl hlt
      have hr := dists_range k (by omega)
      clear hl
      go_wp2_with (at_builtin; refine wpList_app1 rfl _ _ rfl elRow Hown.out rfl rfl rfl rfl (by omega) (by omega) ?_; intro v' w' hown' hbel' _)
      go_roundw
      case rel =>
        rw [dists_bits k hlt] at hown'
        exact ⟨k + 1, by omega, by go_num, fun h => by rw [dists_next k hlt h], by rw [take_rows dists k (by rw [dists_length]; omega)]; exact hown', Hbel.out.trans hbel'⟩
      case measure => simp [intOf]; omega
    · obtain rfl : k = 30 := by omega
      clear hl
      go_wp2_with fail
      go_ret
      exact ⟨_, rfl, Hown.out, Hbel.out⟩

theorem rowsAt_own {w : World} {base n : Nat} {e : TypeId} {v : Value} {rows : List (Int × Int)} (h : w.ownsRow base e 2 v n (rowCells rows)) (h0 : 0 < n) : ∃ g c, v = .slice (some ⟨g, 0, none⟩) n c ∧ n ≤ c ∧ RowsAt w g rows := by
  obtain ⟨g, c, hv, _, _, hc, hcell, _⟩ := own_form h h0
  refine ⟨g, c, hv, hc, fun j hj => ?_⟩
  have key : ∀ (l : List (Int × Int)) (j : Nat), j < l.length → (rowCells l)[j * 2]? = some (.int .i64 (rowL l j)) ∧ (rowCells l)[j * 2 + 1]? = some (.int .i64 (rowB l j)) := by
    intro l
    induction l with
    | nil => intro j hj; simp at hj
    | cons r l ih =>
      intro j hj
      cases j with
      | zero => exact ⟨rfl, rfl⟩
      | succ j =>
        have := ih j (by simpa using hj)
        have e1 : (rowCells (r :: l))[(j + 1) * 2]? = (rowCells l)[j * 2]? := by rw [show (j + 1) * 2 = j * 2 + 1 + 1 from by omega]; rfl
        have e2 : (rowCells (r :: l))[(j + 1) * 2 + 1]? = (rowCells l)[j * 2 + 1]? := by rw [show (j + 1) * 2 + 1 = j * 2 + 1 + 1 + 1 from by omega]; rfl
        rw [e1, e2]
        exact this
  obtain ⟨k1, k2⟩ := key rows j hj
  exact ⟨hcell _ _ k1, hcell _ _ k2⟩

set_option maxHeartbeats 400000 in
theorem rOf_calls (n : Int) (rows : List (Int × Int)) (g len c : Nat) (w : World) (hlen : rows.length = len) (hn : 0 ≤ n) (hn2 : n ≤ 40000) (hl : 0 < len) (hl2 : len ≤ 100)
   (hr : ∀ j, j < len → 0 ≤ rowL rows j ∧ rowL rows j ≤ 40000) (hc : RowsAt w g rows) :
    Calls Tryz.prog 91 #[.int .i64 n, .slice (some ⟨g, 0, none⟩) len c] w fun e w' =>
      e = .returned (.tuple #[.int .i64 (lastLe rows n len), .int .i64 (symX rows n)]) ∧ Below w.heap.size w w' := by
  have Hc := Lib.hid hc
  have Hr := Lib.hid hr
  have Hlen := Lib.hid hlen
  clear hc hr hlen
  go_enter Tryz.func91, Tryz.ntmps91
  go_wp2
  go_loop [6, 7] (fun at_ i => ∃ k m : Nat, k ≤ len ∧ i = .int .i64 k ∧ at_ = .int .i64 m ∧ m < len ∧ Hid (m = lastLe rows n k)) (fun _ i => len - (intOf i).toNat)
  case atStart => exact ⟨0, 0, by omega, rfl, rfl, hl, rfl⟩
  case round =>
    obtain ⟨k, m, hk, rfl, rfl, hm, Hm⟩ := hrel
    by_cases hlt : k < len
    · have hz := (Hc.out k (Hlen.out ▸ hlt)).1
      have hb := Hr.out k hlt
      go_wp2
      all_goals
        go_round
        case rel =>
          first
          | exact ⟨k + 1, k, by omega, by go_num, by go_num, hlt, (lastLe_hit rows n k (by assumption)).symm⟩
          | exact ⟨k + 1, m, by omega, by go_num, rfl, hm, Hm.out.trans (lastLe_miss rows n k (by assumption)).symm⟩
        case measure => simp [intOf]; omega
    · have hk2 : k = len := by omega
      have hz := (Hc.out m (Hlen.out ▸ hm)).1
      have hb := Hr.out m hm
      have Hk := Lib.hid hk2
      have hk3 : len ≤ k := by omega
      clear hk2
      go_wp2
      go_region
      go_wp2
      go_ret2
      refine ⟨?_, (Below.refl _ _).drew⟩
      have e := Hm.out
      rw [Hk.out] at e
      unfold symX
      rw [Hlen.out, ← e]
      rfl
end Go.Proofs.YtdbkbeojedndbaaGreatDoor
namespace Go.Proofs.YtdbkbeojedndbaaGreatDoor
open Go.RowKit

instance hitDec (xs bs : List Int) (p m s : Nat) : Decidable (Hit xs bs p m s) := by unfold Hit; infer_instance
def nextS (xs bs : List Int) (p m : Nat) : Option Nat := (List.range xs.length).find? fun s => decide (Hit xs bs p m s)
theorem nextS_hit {xs bs : List Int} {p m s : Nat} (h : Hit xs bs p m s) : nextS xs bs p m = some s := by
 cases hf : nextS xs bs p m with
 | none =>
  have := List.find?_eq_none.1 hf s (List.mem_range.2 h.1)
  simp [h] at this
 | some t =>
  have := List.find?_some hf
  rw [h.one (of_decide_eq_true this)]
theorem nextS_none {xs bs : List Int} {p m : Nat} (h : ∀ s, ¬ Hit xs bs p m s) : nextS xs bs p m = none := by
 rw [nextS, List.find?_eq_none]
 intro s _
 simp [h s]
theorem numAt_cons (bs : List Int) (p k : Nat) : numAt bs p (k + 1) = bitAt bs p + 2 * numAt bs (p + 1) k := by
 induction k with
 | zero => simp [numAt]
 | succ k ih =>
  have e : numAt bs p (k + 1 + 1) = numAt bs p (k + 1) + bitAt bs (p + (k + 1)) * 2 ^ (k + 1) := rfl
  have e2 : numAt bs (p + 1) (k + 1) = numAt bs (p + 1) k + bitAt bs (p + 1 + k) * 2 ^ k := rfl
  rw [e, ih, e2, Nat.mul_add, Nat.pow_succ, show p + 1 + k = p + (k + 1) from by omega, Nat.add_assoc, Nat.mul_comm (2 ^ k) 2, Nat.mul_left_comm]
def sizeS (s : Nat) : Nat := if s = 16 then 2 else if s = 17 then 3 else 7
def leastS (s : Nat) : Nat := if s = 16 then 3 else if s = 17 then 3 else 11
theorem sizeS_le (s : Nat) : sizeS s ≤ 7 := by unfold sizeS; split <;> (try split) <;> omega
theorem leastS_le (s : Nat) : 3 ≤ leastS s ∧ leastS s ≤ 11 := by unfold leastS; split <;> (try split) <;> omega
theorem numAt_size (bs : List Int) (p s : Nat) : numAt bs p (sizeS s) ≤ 128 := by
 have h := numAt_lt bs p (sizeS s)
 have : (2 : Nat) ^ sizeS s ≤ 2 ^ 7 := Nat.pow_le_pow_right (by omega) (sizeS_le s)
 have : (2 : Nat) ^ 7 = 128 := by decide
 omega
def manyS (bs : List Int) (q s : Nat) : Nat := leastS s + numAt bs q (sizeS s)
def valueS (out : List Int) (s : Nat) : Int := if s = 16 then rd out (out.length - 1) else 0
def listS (xs bs : List Int) (T n : Nat) : Nat → Nat → List Int → Option (List Int × Nat)
 | 0, _, _ => none
 | f + 1, p, out =>
  if n ≤ out.length then some (out, p) else
  match nextS xs bs p (T - p) with
  | none => none
  | some s =>
   if s < 16 then listS xs bs T n f (p + (rd xs s).toNat) (out ++ [(s : Int)]) else
   if s = 16 ∧ out.length = 0 then none else
   if T < p + (rd xs s).toNat + sizeS s then none else
   if n < out.length + manyS bs (p + (rd xs s).toNat) s then none else
   listS xs bs T n f (p + (rd xs s).toNat + sizeS s) (out ++ List.replicate (manyS bs (p + (rd xs s).toNat) s) (valueS out s))
theorem listS_done {xs bs : List Int} {T n f p : Nat} {out : List Int} (hf : 0 < f) (h : n ≤ out.length) : listS xs bs T n f p out = some (out, p) := by
 cases f with
 | zero => omega
 | succ f => unfold listS; rw [if_pos h]
theorem listS_no {xs bs : List Int} {T n f p : Nat} {out : List Int} (h : ¬ n ≤ out.length) (hn : ∀ s, ¬ Hit xs bs p (T - p) s) : listS xs bs T n f p out = none := by
 cases f with
 | zero => rfl
 | succ f => unfold listS; rw [if_neg h, nextS_none hn]
theorem listS_low {xs bs : List Int} {T n f p s : Nat} {out : List Int} (h : ¬ n ≤ out.length) (hs : Hit xs bs p (T - p) s) (h16 : s < 16) : listS xs bs T n (f + 1) p out = listS xs bs T n f (p + (rd xs s).toNat) (out ++ [(s : Int)]) := by
 rw [listS, if_neg h, nextS_hit hs]
 simp only [if_pos h16]
theorem listS_first {xs bs : List Int} {T n f p s : Nat} {out : List Int} (h : ¬ n ≤ out.length) (hs : Hit xs bs p (T - p) s) (h16 : s = 16) (h0 : out.length = 0) : listS xs bs T n f p out = none := by
 cases f with
 | zero => rfl
 | succ f =>
  rw [listS, if_neg h, nextS_hit hs]
  simp only [if_neg (show ¬ s < 16 by omega), if_pos (And.intro h16 h0)]
theorem listS_short {xs bs : List Int} {T n f p s : Nat} {out : List Int} (h : ¬ n ≤ out.length) (hs : Hit xs bs p (T - p) s) (h16 : ¬ s < 16) (hT : T < p + (rd xs s).toNat + sizeS s) : listS xs bs T n f p out = none := by
 cases f with
 | zero => rfl
 | succ f =>
  rw [listS, if_neg h, nextS_hit hs]
  simp only [if_neg h16, if_pos hT]
  split <;> rfl
theorem listS_long {xs bs : List Int} {T n f p s : Nat} {out : List Int} (h : ¬ n ≤ out.length) (hs : Hit xs bs p (T - p) s) (h16 : ¬ s < 16) (hm : n < out.length + manyS bs (p + (rd xs s).toNat) s) : listS xs bs T n f p out = none := by
 cases f with
 | zero => rfl
 | succ f =>
  rw [listS, if_neg h, nextS_hit hs]
  simp only [if_neg h16, if_pos hm]
  split
  ·rfl
  ·split <;> rfl
theorem listS_more {xs bs : List Int} {T n f p s : Nat} {out : List Int} (h : ¬ n ≤ out.length) (hs : Hit xs bs p (T - p) s) (h16 : ¬ s < 16) (h0 : ¬ (s = 16 ∧ out.length = 0)) (hT : ¬ T < p + (rd xs s).toNat + sizeS s) (hm : ¬ n < out.length + manyS bs (p + (rd xs s).toNat) s) :
  listS xs bs T n (f + 1) p out = listS xs bs T n f (p + (rd xs s).toNat + sizeS s) (out ++ List.replicate (manyS bs (p + (rd xs s).toNat) s) (valueS out s)) := by
 rw [listS, if_neg h, nextS_hit hs]
 simp only [if_neg h16, if_neg h0, if_neg hT, if_neg hm]
def ordL : List Nat := [16, 17, 18, 0, 8, 7, 9, 6, 10, 5, 11, 4, 12, 3, 13, 2, 14, 1, 15]
def lensS (bs : List Int) (p : Nat) : Nat → List Int
 | 0 => List.replicate 19 0
 | i + 1 => (lensS bs p i).set (ordL.getD i 0) (numAt bs (p + 3 * i) 3 : Nat)
theorem lensS_length (bs : List Int) (p i : Nat) : (lensS bs p i).length = 19 := by
 induction i with
 | zero => simp [lensS]
 | succ i ih => simp [lensS, ih]
theorem ordL_lt (i : Nat) : ordL.getD i 0 < 19 := by
 rcases Nat.lt_or_ge i 19 with h | h
 ·have key : ∀ i : Nat, i < 19 → ordL.getD i 0 < 19 := by decide
  exact key i h
 ·rw [List.getD_eq_getElem?_getD, List.getElem?_eq_none (by simpa [ordL] using h)]
  decide
def getS (bs : List Int) (T p : Nat) : Option (List Int × List Int × Nat) :=
 if T < p + 14 then none else
 if 29 < numAt bs p 5 ∨ 29 < numAt bs (p + 5) 5 then none else
 if T < p + 14 + 3 * (numAt bs (p + 10) 4 + 4) then none else
 if rightB (lensS bs (p + 14) (numAt bs (p + 10) 4 + 4)) = false then none else
 match listS (lensS bs (p + 14) (numAt bs (p + 10) 4 + 4)) bs T (numAt bs p 5 + 257 + (numAt bs (p + 5) 5 + 1)) (numAt bs p 5 + 257 + (numAt bs (p + 5) 5 + 1) + 1) (p + 14 + 3 * (numAt bs (p + 10) 4 + 4)) [] with
 | none => none
 | some (l, q) => if rd l 256 = 0 then none else some (l.take (numAt bs p 5 + 257), l.drop (numAt bs p 5 + 257), q)
theorem listS_len {xs bs : List Int} {T n : Nat} : ∀ {f p : Nat} {out l : List Int} {q : Nat}, out.length ≤ n → p ≤ T → listS xs bs T n f p out = some (l, q) → l.length = n ∧ q ≤ T := by
 intro f
 induction f with
 | zero => intro p out l q _ _ h; cases h
 | succ f ih =>
  intro p out l q hl hp h
  by_cases hn : n ≤ out.length
  ·rw [listS_done (by omega) hn] at h
   cases h
   exact ⟨by omega, hp⟩
  ·by_cases hx : ∃ s, Hit xs bs p (T - p) s
   ·obtain ⟨s, hs⟩ := hx
    have hm := hs.2.2.2.1
    by_cases h16 : s < 16
    ·rw [listS_low hn hs h16] at h
     exact ih (by simp; omega) (by omega) h
    ·by_cases h0 : s = 16 ∧ out.length = 0
     ·rw [listS_first hn hs h0.1 h0.2] at h; cases h
     ·by_cases hT : T < p + (rd xs s).toNat + sizeS s
      ·rw [listS_short hn hs h16 hT] at h; cases h
      ·by_cases hlong : n < out.length + manyS bs (p + (rd xs s).toNat) s
       ·rw [listS_long hn hs h16 hlong] at h; cases h
       ·rw [listS_more hn hs h16 h0 hT hlong] at h
        exact ih (by simp; omega) (by omega) h
   ·rw [listS_no hn (fun s hs => hx ⟨s, hs⟩)] at h
    cases h
theorem getS_at {bs : List Int} {T p : Nat} {l1 l2 : List Int} {q : Nat} (_hp : p ≤ T) (h : getS bs T p = some (l1, l2, q)) : q ≤ T := by
 unfold getS at h
 split at h
 ·cases h
 ·split at h
  ·cases h
  ·split at h
   ·cases h
   ·split at h
    ·cases h
    ·split at h
     ·cases h
     ·next l q' hl =>
      split at h
      ·cases h
      ·simp only [Option.some.injEq, Prod.mk.injEq] at h
       obtain ⟨_, _, rfl⟩ := h
       exact (listS_len (out := []) (by simp) (by omega) hl).2
theorem getS_small {bs : List Int} {T p : Nat} {l1 l2 : List Int} {q : Nat} (h : getS bs T p = some (l1, l2, q)) : l1.length + l2.length ≤ 1000 := by
 unfold getS at h
 split at h
 ·cases h
 ·split at h
  ·cases h
  ·split at h
   ·cases h
   ·split at h
    ·cases h
    ·split at h
     ·cases h
     ·next l q' hl =>
      split at h
      ·cases h
      ·simp only [Option.some.injEq, Prod.mk.injEq] at h
       obtain ⟨rfl, rfl, _⟩ := h
       have := (listS_len (out := []) (by simp) (by omega) hl).1
       have a1 := numAt_lt bs p 5
       have a2 := numAt_lt bs (p + 5) 5
       rw [List.length_take, List.length_drop]
       omega
end Go.Proofs.YtdbkbeojedndbaaGreatDoor
namespace Go.Proofs.YtdbkbeojedndbaaGreatDoor
open Go.RowKit

def sameFrom (b : List Int) (p q : Nat) : Nat → Nat → Nat
 | 0, n => n
 | f + 1, n => if q + n < b.length ∧ rd b (p + n) = rd b (q + n) then sameFrom b p q f (n + 1) else n
def sameN (b : List Int) (p q : Nat) : Nat := sameFrom b p q 258 0
theorem sameFrom_rng (b : List Int) (p q : Nat) : ∀ f n, n ≤ sameFrom b p q f n ∧ sameFrom b p q f n ≤ n + f := by
 intro f
 induction f with
 | zero => intro n; exact ⟨Nat.le_refl _, Nat.le_refl _⟩
 | succ f ih =>
  intro n
  unfold sameFrom
  split
  ·have := ih (n + 1); omega
  ·omega
theorem sameN_le (b : List Int) (p q : Nat) : sameN b p q ≤ 258 := by
 have := (sameFrom_rng b p q 258 0).2
 unfold sameN
 omega
theorem sameFrom_eq (b : List Int) (p q : Nat) : ∀ f n j, n ≤ j → j < sameFrom b p q f n → q + j < b.length ∧ rd b (p + j) = rd b (q + j) := by
 intro f
 induction f with
 | zero => intro n j h1 h2; unfold sameFrom at h2; omega
 | succ f ih =>
  intro n j h1 h2
  unfold sameFrom at h2
  split at h2
  ·rename_i hc
   rcases Nat.lt_or_ge n j with g | g
   ·exact ih (n + 1) j g h2
   ·obtain rfl : j = n := by omega
    exact hc
  ·omega
theorem sameN_eq (b : List Int) (p q j : Nat) (h : j < sameN b p q) : q + j < b.length ∧ rd b (p + j) = rd b (q + j) := sameFrom_eq b p q 258 0 j (Nat.zero_le _) h
theorem sameN_three {b : List Int} {p q : Nat} (hq : q + 3 ≤ b.length) (h0 : rd b p = rd b q) (h1 : rd b (p + 1) = rd b (q + 1)) (h2 : rd b (p + 2) = rd b (q + 2)) : 3 ≤ sameN b p q := by
 have e : sameN b p q = sameFrom b p q 255 3 := by
  unfold sameN
  show sameFrom b p q (257 + 1) 0 = _
  rw [sameFrom, if_pos ⟨by omega, h0⟩]
  show sameFrom b p q (256 + 1) 1 = _
  rw [sameFrom, if_pos ⟨by omega, h1⟩]
  show sameFrom b p q (255 + 1) 2 = _
  rw [sameFrom, if_pos ⟨by omega, h2⟩]
 rw [e]
 exact (sameFrom_rng b p q 255 3).1
def bestTo (b : List Int) (i : Nat) : Nat → Nat × Nat
 | 0 => (0, 0)
 | d + 1 => if (bestTo b i d).1 < sameN b (i - (d + 1)) i then (sameN b (i - (d + 1)) i, d + 1) else bestTo b i d
def bestM (b : List Int) (i : Nat) : Nat × Nat := bestTo b i (min i 32768)
theorem bestTo_le (b : List Int) (i : Nat) : ∀ d, (bestTo b i d).1 ≤ 258 ∧ (bestTo b i d).2 ≤ d := by
 intro d
 induction d with
 | zero => exact ⟨Nat.zero_le _, Nat.le_refl _⟩
 | succ d ih =>
  unfold bestTo
  split
  ·exact ⟨sameN_le _ _ _, Nat.le_refl _⟩
  ·exact ⟨ih.1, Nat.le_succ_of_le ih.2⟩
theorem bestTo_match (b : List Int) (i : Nat) : ∀ d, 0 < (bestTo b i d).1 → 1 ≤ (bestTo b i d).2 ∧ (bestTo b i d).1 = sameN b (i - (bestTo b i d).2) i := by
 intro d
 induction d with
 | zero => intro h; exact absurd h (Nat.lt_irrefl _)
 | succ d ih =>
  unfold bestTo
  split
  ·intro _; exact ⟨Nat.succ_le_succ (Nat.zero_le _), rfl⟩
  ·exact ih
def cl (m : Nat × Nat) : Nat × Nat := if m.1 < 3 then (0, 0) else m
theorem cl_step (b : List Int) (i d : Nat) : cl (bestTo b i (d + 1)) = if 3 ≤ sameN b (i - (d + 1)) i ∧ (cl (bestTo b i d)).1 < sameN b (i - (d + 1)) i then (sameN b (i - (d + 1)) i, d + 1) else cl (bestTo b i d) := by
 generalize hs : sameN b (i - (d + 1)) i = s
 generalize hm : bestTo b i d = m
 have e : bestTo b i (d + 1) = if m.1 < s then (s, d + 1) else m := by
  show (if (bestTo b i d).1 < sameN b (i - (d + 1)) i then (sameN b (i - (d + 1)) i, d + 1) else bestTo b i d) = _
  rw [hs, hm]
 rw [e]
 unfold cl
 rcases Nat.lt_or_ge m.1 s with g | g <;> rcases Nat.lt_or_ge m.1 3 with g3 | g3 <;> rcases Nat.lt_or_ge s 3 with s3 | s3
 ·rw [if_pos g, if_pos s3, if_pos g3, if_neg (by omega)]
 ·rw [if_pos g, if_neg (Nat.not_lt.2 s3), if_pos g3, if_pos ⟨s3, by show 0 < s; omega⟩]
 ·omega
 ·rw [if_pos g, if_neg (Nat.not_lt.2 s3), if_neg (Nat.not_lt.2 g3), if_pos ⟨s3, g⟩]
 ·rw [if_neg (Nat.not_lt.2 g), if_pos g3, if_neg (by omega)]
 ·omega
 ·rw [if_neg (Nat.not_lt.2 g), if_neg (Nat.not_lt.2 g3), if_neg (by omega)]
 ·rw [if_neg (Nat.not_lt.2 g), if_neg (Nat.not_lt.2 g3), if_neg (fun h => absurd h.2 (Nat.not_lt.2 g))]
theorem cl_gap (b : List Int) (i c : Nat) (hc : c ≤ i) : ∀ k, k ≤ c → (∀ p, c - k ≤ p → p < c → sameN b p i < 3) → cl (bestTo b i (i - (c - k))) = cl (bestTo b i (i - c)) := by
 intro k
 induction k with
 | zero => intro _ _; rfl
 | succ k ih =>
  intro hk h
  rw [← ih (by omega) (fun p h1 h2 => h p (by omega) h2)]
  have e : i - (c - (k + 1)) = (i - (c - k)) + 1 := by omega
  rw [e, cl_step]
  have e2 : i - (i - (c - k) + 1) = c - (k + 1) := by omega
  rw [e2, if_neg (fun hh => absurd hh.1 (Nat.not_le.2 (h (c - (k + 1)) (Nat.le_refl _) (by omega))))]
theorem best_full (b : List Int) (i d : Nat) (h : (bestTo b i d).1 = 258) : ∀ k, bestTo b i (d + k) = bestTo b i d := by
 intro k
 induction k with
 | zero => rfl
 | succ k ih =>
  show (if (bestTo b i (d + k)).1 < sameN b (i - (d + k + 1)) i then (sameN b (i - (d + k + 1)) i, d + k + 1) else bestTo b i (d + k)) = _
  rw [ih, if_neg]
  have := sameN_le b (i - (d + k + 1)) i
  omega
def lastAt (b : List Int) (x y z : Int) : Nat → Int
 | 0 => -1
 | p + 1 => if p + 3 ≤ b.length ∧ rd b p = x ∧ rd b (p + 1) = y ∧ rd b (p + 2) = z then (p : Int) else lastAt b x y z p
def prevAt (b : List Int) (p : Nat) : Int := if p + 3 ≤ b.length then lastAt b (rd b p) (rd b (p + 1)) (rd b (p + 2)) p else -1
theorem lastAt_cases (b : List Int) (x y z : Int) : ∀ c, (lastAt b x y z c = -1 ∧ ∀ p, p < c → p + 3 ≤ b.length → ¬ (rd b p = x ∧ rd b (p + 1) = y ∧ rd b (p + 2) = z)) ∨ ∃ p : Nat, p < c ∧ lastAt b x y z c = p ∧ p + 3 ≤ b.length ∧ (rd b p = x ∧ rd b (p + 1) = y ∧ rd b (p + 2) = z) ∧ ∀ q, p < q → q < c → q + 3 ≤ b.length → ¬ (rd b q = x ∧ rd b (q + 1) = y ∧ rd b (q + 2) = z) := by
 intro c
 induction c with
 | zero => exact .inl ⟨rfl, fun p h => by omega⟩
 | succ c ih =>
  unfold lastAt
  split
  ·rename_i h
   exact .inr ⟨c, Nat.lt_succ_self _, rfl, h.1, h.2, fun q h1 h2 => by omega⟩
  ·rename_i h
   rcases ih with ⟨e, h2⟩ | ⟨p, hp, e, h3, h4, h5⟩
   ·refine .inl ⟨e, fun p hp h3 hh => ?_⟩
    rcases Nat.lt_or_ge p c with g | g
    ·exact h2 p g h3 hh
    ·obtain rfl : p = c := by omega
     exact h ⟨h3, hh⟩
   ·refine .inr ⟨p, by omega, e, h3, h4, fun q h6 h7 h8 hh => ?_⟩
    rcases Nat.lt_or_ge q c with g | g
    ·exact h5 q h6 g h8 hh
    ·obtain rfl : q = c := by omega
     exact h ⟨h8, hh⟩
structure Find (b : List Int) (i c : Nat) (at' : Int) (m : Nat × Nat) : Prop where
 le : c ≤ i
 far : i - c ≤ 32768
 last : at' = lastAt b (rd b i) (rd b (i + 1)) (rd b (i + 2)) c
 best : m = cl (bestTo b i (i - c))
theorem not_key {b : List Int} {p i : Nat} (hp : p < i) (hi : i + 3 ≤ b.length) (h : p + 3 ≤ b.length → ¬ (rd b p = rd b i ∧ rd b (p + 1) = rd b (i + 1) ∧ rd b (p + 2) = rd b (i + 2))) : sameN b p i < 3 := by
 refine Nat.not_le.1 fun hn => ?_
 have e0 := (sameN_eq b p i 0 (by omega)).2
 have e1 := (sameN_eq b p i 1 (by omega)).2
 have e2 := (sameN_eq b p i 2 (by omega)).2
 exact h (by omega) ⟨e0, e1, e2⟩
theorem Find.start (b : List Int) (i : Nat) : Find b i i (lastAt b (rd b i) (rd b (i + 1)) (rd b (i + 2)) i) (0, 0) :=
 ⟨Nat.le_refl _, by omega, rfl, by rw [Nat.sub_self]; rfl⟩
theorem Find.next {b : List Int} {i c p : Nat} {m : Nat × Nat} (hi : i + 3 ≤ b.length) (h : Find b i c (p : Int) m) (hf : i - p ≤ 32768) :
  p < c ∧ p + 3 ≤ b.length ∧ Find b i p (prevAt b p) (if m.1 < sameN b p i then (sameN b p i, i - p) else m) := by
 rcases lastAt_cases b (rd b i) (rd b (i + 1)) (rd b (i + 2)) c with ⟨e, _⟩ | ⟨p', hp, e, h3, h4, h5⟩
 ·have := h.last.trans e; omega
 ·have e0 : (p : Int) = p' := h.last.trans e
  obtain rfl : p = p' := by omega
  refine ⟨hp, h3, by have := h.le; omega, hf, ?_, ?_⟩
  ·unfold prevAt
   rw [if_pos h3, h4.1, h4.2.1, h4.2.2]
  ·have hle := h.le
   have g := cl_gap b i c h.le (c - (p + 1)) (by omega) (fun q h6 h7 => not_key (by omega) hi (fun h8 => h5 q (by omega) h7 h8))
   have e1 : i - (c - (c - (p + 1))) = i - p - 1 := by omega
   rw [e1, ← h.best] at g
   have s3 := sameN_three (p := p) hi h4.1 h4.2.1 h4.2.2
   have k := cl_step b i (i - p - 1)
   have e2 : i - p - 1 + 1 = i - p := by omega
   have e3 : i - (i - p) = p := by omega
   rw [e2, e3, g] at k
   rw [k]
   by_cases hm : m.1 < sameN b p i
   ·rw [if_pos hm, if_pos ⟨s3, hm⟩]
   ·rw [if_neg hm, if_neg (fun hh => hm hh.2)]
theorem Find.stop {b : List Int} {i c : Nat} {at' : Int} {m : Nat × Nat} (hi : i + 3 ≤ b.length) (h : Find b i c at' m) (he : at' < 0 ∨ 32768 < (i : Int) - at' ∨ 258 ≤ m.1) : m = cl (bestM b i) := by
 have hle := h.le
 have hfar := h.far
 unfold bestM
 by_cases hm : 258 ≤ m.1
 ·have hb := h.best
  have h258 : (bestTo b i (i - c)).1 = 258 := by
   have l := (bestTo_le b i (i - c)).1
   rw [hb] at hm
   unfold cl at hm
   split at hm
   ·exact absurd hm (by decide)
   ·omega
  have e : min i 32768 = (i - c) + (min i 32768 - (i - c)) := by omega
  rw [e, best_full b i _ h258, hb]
 ·rcases lastAt_cases b (rd b i) (rd b (i + 1)) (rd b (i + 2)) c with ⟨e, h2⟩ | ⟨p, hp, e, h3, h4, h5⟩
  ·have g := cl_gap b i c hle (c - (i - min i 32768)) (by omega) (fun q h6 h7 => not_key (by omega) hi (fun h8 => h2 q h7 h8))
   have e1 : i - (c - (c - (i - min i 32768))) = min i 32768 := by omega
   rw [e1] at g
   rw [g, h.best]
  ·have ea := h.last.trans e
   have hpf : 32768 < i - p := by omega
   have g := cl_gap b i c hle (c - (i - 32768)) (by omega) (fun q h6 h7 => not_key (by omega) hi (fun h8 => h5 q (by omega) h7 h8))
   have e1 : i - (c - (c - (i - 32768))) = min i 32768 := by omega
   rw [e1] at g
   rw [g, h.best]
theorem best_short {b : List Int} {i : Nat} (hi : ¬ i + 3 ≤ b.length) : cl (bestM b i) = (0, 0) := by
 unfold cl
 rw [if_pos]
 refine Nat.not_le.1 fun h => ?_
 have m := bestTo_match b i (min i 32768) (by unfold bestM at h; omega)
 unfold bestM at h
 have := (sameN_eq b (i - (bestTo b i (min i 32768)).2) i 2 (by omega)).1
 omega
def pressFrom (b : List Int) : Nat → Nat → List (Int × Int × Int)
 | 0, _ => []
 | f + 1, i => if i < b.length then (if (bestM b i).1 < 3 then (rd b i, 0, 0) :: pressFrom b f (i + 1) else (0, ((bestM b i).1 : Int), ((bestM b i).2 : Int)) :: pressFrom b f (i + (bestM b i).1)) else []
def pressL (b : List Int) : List (Int × Int × Int) := pressFrom b b.length 0
theorem pressFrom_end (b : List Int) (f i : Nat) (h : b.length ≤ i) : pressFrom b f i = [] := by
 cases f with
 | zero => rfl
 | succ f => unfold pressFrom; rw [if_neg (Nat.not_lt.2 h)]
theorem bestM_rng {b : List Int} {i : Nat} (h : 3 ≤ (bestM b i).1) : (bestM b i).1 ≤ 258 ∧ 1 ≤ (bestM b i).2 ∧ (bestM b i).2 ≤ 32768 ∧ (bestM b i).2 ≤ i ∧ i + (bestM b i).1 ≤ b.length ∧ ∀ j, j < (bestM b i).1 → rd b (i + j) = rd b (i - (bestM b i).2 + j) := by
 have l := bestTo_le b i (min i 32768)
 have m := bestTo_match b i (min i 32768) (by unfold bestM at h; omega)
 unfold bestM at h ⊢
 refine ⟨l.1, m.1, by omega, by omega, ?_, fun j hj => ?_⟩
 ·have := (sameN_eq b (i - (bestTo b i (min i 32768)).2) i ((bestTo b i (min i 32768)).1 - 1) (by omega)).1
  omega
 ·exact (sameN_eq b (i - (bestTo b i (min i 32768)).2) i j (by omega)).2.symm
theorem pressFrom_ok {b : List Int} (hb : ∀ j, j < b.length → 0 ≤ rd b j ∧ rd b j ≤ 255) : ∀ f i, ∀ t ∈ pressFrom b f i, (t.2.1 = 0 ∧ t.2.2 = 0 ∧ 0 ≤ t.1 ∧ t.1 ≤ 255) ∨ (t.1 = 0 ∧ 3 ≤ t.2.1 ∧ t.2.1 ≤ 258 ∧ 1 ≤ t.2.2 ∧ t.2.2 ≤ 32768) := by
 intro f
 induction f with
 | zero => intro i t ht; cases ht
 | succ f ih =>
  intro i t ht
  unfold pressFrom at ht
  split at ht
  ·rename_i hi
   split at ht
   ·rcases List.mem_cons.1 ht with rfl | h
    ·exact .inl ⟨rfl, rfl, hb i hi⟩
    ·exact ih _ t h
   ·rename_i h3
    rcases List.mem_cons.1 ht with rfl | h
    ·have r := bestM_rng (b := b) (i := i) (by omega)
     exact .inr ⟨rfl, by show (3 : Int) ≤ ((bestM b i).1 : Int); omega, by show ((bestM b i).1 : Int) ≤ 258; omega, by show (1 : Int) ≤ ((bestM b i).2 : Int); omega, by show ((bestM b i).2 : Int) ≤ 32768; omega⟩
    ·exact ih _ t h
  ·cases ht
theorem pressFrom_length (b : List Int) : ∀ f i, (pressFrom b f i).length ≤ f := by
 intro f
 induction f with
 | zero => intro i; exact Nat.le_refl _
 | succ f ih =>
  intro i
  unfold pressFrom
  split
  ·split
   ·rw [List.length_cons]; exact Nat.succ_le_succ (ih _)
   ·rw [List.length_cons]; exact Nat.succ_le_succ (ih _)
  ·exact Nat.zero_le _
end Go.Proofs.YtdbkbeojedndbaaGreatDoor
namespace Go.Proofs.YtdbkbeojedndbaaGreatDoor
open Go.RowKit

def Tabs (w : World) : Prop := RowsAt w 1 lens ∧ RowsAt w 2 dists
theorem Tabs.below {w w1 : World} (h : Tabs w) (hb : Below w.heap.size w w1) : Tabs w1 := ⟨h.1.below hb, h.2.below hb⟩
theorem Tabs.alloc {w : World} (h : Tabs w) (o : Obj) : Tabs (w.alloc o) := h.below ((Below.refl _ _).alloc (Nat.le_refl _) _)
end Go.Proofs.YtdbkbeojedndbaaGreatDoor
namespace Go.Proofs.YtdbkbeojedndbaaGreatDoor
open Go.RowKit

theorem elIntF : ElT Tryz.prog 38 3 (.int .i64 0) 1 8 := ⟨Tryz.underlying38, by kernel_rfl, rfl, by decide, by decide⟩
def fixAt (j : Nat) : Int := if j < 144 then 8 else if j < 256 then 9 else if j < 280 then 7 else 8
def fixA : List Int := (List.range 288).map fixAt
def fixB : List Int := List.replicate 32 5
theorem fixA_length : fixA.length = 288 := by simp [fixA]
theorem rd_fixA (j : Nat) (h : j < 288) : rd fixA j = fixAt j := by
 rw [rd_getElem (by rw [fixA_length]; exact h)]
 simp [fixA]
theorem rd_fixB (j : Nat) (h : j < 32) : rd fixB j = 5 := by
 rw [rd_getElem (by unfold fixB; rw [List.length_replicate]; exact h)]
 unfold fixB
 rw [List.getElem_replicate]
theorem right_fixA : rightB fixA = true := by kernel_rfl
theorem right_fixB : rightB fixB = true := by kernel_rfl

set_option maxHeartbeats 1000000 in set_option maxRecDepth 100000 in
theorem Fixed_calls (w : World) :
  Calls Tryz.prog 41 #[] w fun e w' => ∃ ga gb, e = .returned (.tuple #[.slice (some ⟨ga, 0, none⟩) 288 288, .slice (some ⟨gb, 0, none⟩) 32 32]) ∧
   w'.ownsRow w.heap.size 3 1 (.slice (some ⟨ga, 0, none⟩) 288 288) 288 (ints .i64 fixA) ∧ w'.ownsRow w.heap.size 3 1 (.slice (some ⟨gb, 0, none⟩) 32 32) 32 (ints .i64 fixB) ∧ Below w.heap.size w w' := by
 go_enter Tryz.func41, Tryz.ntmps41
 go_upto_region 1 with fail
 go_cut [2, 3] from 6 to 7 (fun a b wx => ∃ ga gb, ga ≠ gb ∧ a = .slice (some ⟨ga, 0, none⟩) 288 288 ∧ b = .slice (some ⟨gb, 0, none⟩) 32 32 ∧ (∃ la, wx.ownsRow w.heap.size 3 1 a 288 (ints .i64 la)) ∧ (∃ lb, wx.ownsRow w.heap.size 3 1 b 32 (ints .i64 lb)) ∧ Below w.heap.size w wx)
 case first =>
  obtain ⟨oA, la, mA, _, rA⟩ := make_rule elIntF 288 288 rfl (by decide)
  obtain ⟨oB, lb, mB, _, rB⟩ := make_rule elIntF 32 32 rfl (by decide)
  go_wp2
  go_region
  ·go_wp2
   go_meet
   exact ⟨w.heap.size, w.heap.size + 1, by omega, by simp, by simp, ⟨la, (rA.out w.drew _ _ rfl (Nat.le_refl _)).alloc _⟩, ⟨lb, rB.out (w.drew.alloc oA) _ _ (by simp) (by omega)⟩, below_new (below_new (Below.refl _ _).drew (Nat.le_refl _) _) (Nat.le_refl _) _⟩
  ·go_wp2
   go_meet
   exact ⟨w.heap.size + 1, w.heap.size, by omega, by simp, by simp, ⟨la, rA.out (w.drew.alloc oB) _ _ (by simp) (by omega)⟩, ⟨lb, (rB.out w.drew _ _ rfl (Nat.le_refl _)).alloc _⟩, below_new (below_new (Below.refl _ _).drew (Nat.le_refl _) _) (Nat.le_refl _) _⟩
 case rest =>
  obtain ⟨ga, gb, hne, rfl, rfl, ⟨la, hownA⟩, ⟨lb, hownB⟩, hb⟩ := hcut
  have HA := Lib.hid hownA
  have HB := Lib.hid hownB
  have Hb := Lib.hid hb
  have hs := hb.size
  clear hownA hownB hb
  go_wp2
  go_loopw [10] (fun i wr => ∃ (k : Nat) (l : List Int), k ≤ 288 ∧ i = .int .i64 k ∧ wr.ownsRow w.heap.size 3 1 (.slice (some ⟨ga, 0, none⟩) 288 288) 288 (ints .i64 l) ∧ wr.ownsRow w.heap.size 3 1 (.slice (some ⟨gb, 0, none⟩) 32 32) 32 (ints .i64 lb) ∧ Hid (∀ j, j < k → rd l j = fixAt j) ∧ Below w.heap.size w wr) (fun i _ => 288 - (intOf i).toNat)
  case atStart => exact ⟨0, _, by omega, rfl, HA.out, HB.out, (fun j hj => by omega), Hb.out⟩
  case round =>
   obtain ⟨k, l, hk, rfl, hA, hB, Hl, hbel⟩ := hrel
   have hga := (hA.lt ga rfl).1
   have hll : l.length = 288 := by have := hA.1; simpa [ints] using this
   have HA := Lib.hid hA
   have HB := Lib.hid hB
   have Hbel := Lib.hid hbel
   clear hA hB hbel
   by_cases hlt : k < 288
   ·have hf := HA.out.frozenAt k
    have hcell := HA.out.cellAt k (by omega)
    rw [ints_get (by omega)] at hcell
    by_cases h1 : k < 144
    ·have hv : fixAt k = 8 := by unfold fixAt; rw [if_pos h1]
     go_wp2
     go_roundw
     case rel =>
      refine ⟨k + 1, l.set k 8, by omega, by go_num, by rw [ints_set]; exact (HA.out.stored k _).1, ownsRow_setCell_other HB.out (by simpa [Value.ownBlock] using hne.symm) _, ?_, Hbel.out.setCell hga _⟩
      intro j hj
      rw [rd_set (by omega)]
      split
      ·rename_i e; rw [← e, hv]
      ·exact Hl.out j (by omega)
     case measure => simp [intOf]; omega
    ·by_cases h2 : k < 256
     ·have hv : fixAt k = 9 := by unfold fixAt; rw [if_neg h1, if_pos h2]
      go_wp2
      go_roundw
      case rel =>
       refine ⟨k + 1, l.set k 9, by omega, by go_num, by rw [ints_set]; exact (HA.out.stored k _).1, ownsRow_setCell_other HB.out (by simpa [Value.ownBlock] using hne.symm) _, ?_, Hbel.out.setCell hga _⟩
       intro j hj
       rw [rd_set (by omega)]
       split
       ·rename_i e; rw [← e, hv]
       ·exact Hl.out j (by omega)
      case measure => simp [intOf]; omega
     ·by_cases h3 : k < 280
      ·have hv : fixAt k = 7 := by unfold fixAt; rw [if_neg h1, if_neg h2, if_pos h3]
       go_wp2
       go_roundw
       case rel =>
        refine ⟨k + 1, l.set k 7, by omega, by go_num, by rw [ints_set]; exact (HA.out.stored k _).1, ownsRow_setCell_other HB.out (by simpa [Value.ownBlock] using hne.symm) _, ?_, Hbel.out.setCell hga _⟩
        intro j hj
        rw [rd_set (by omega)]
        split
        ·rename_i e; rw [← e, hv]
        ·exact Hl.out j (by omega)
       case measure => simp [intOf]; omega
      ·have hv : fixAt k = 8 := by unfold fixAt; rw [if_neg h1, if_neg h2, if_neg h3]
       go_wp2
       go_roundw
       case rel =>
        refine ⟨k + 1, l.set k 8, by omega, by go_num, by rw [ints_set]; exact (HA.out.stored k _).1, ownsRow_setCell_other HB.out (by simpa [Value.ownBlock] using hne.symm) _, ?_, Hbel.out.setCell hga _⟩
        intro j hj
        rw [rd_set (by omega)]
        split
        ·rename_i e; rw [← e, hv]
        ·exact Hl.out j (by omega)
       case measure => simp [intOf]; omega
   ·obtain rfl : k = 288 := by omega
    have e : l = fixA := ext_rd (by rw [hll, fixA_length]) (fun j hj => by rw [Hl.out j (by omega), rd_fixA j (by omega)])
    subst e
    go_wp2
    obtain ⟨wo, hwo⟩ : ∃ wo : World, wo = wr := ⟨_, rfl⟩
    subst hwo
    go_loopw [37] (fun i wr => ∃ (k : Nat) (l : List Int), k ≤ 32 ∧ i = .int .i64 k ∧ wr.ownsRow w.heap.size 3 1 (.slice (some ⟨ga, 0, none⟩) 288 288) 288 (ints .i64 fixA) ∧ wr.ownsRow w.heap.size 3 1 (.slice (some ⟨gb, 0, none⟩) 32 32) 32 (ints .i64 l) ∧ Hid (∀ j, j < k → rd l j = 5) ∧ Below w.heap.size w wr) (fun i _ => 32 - (intOf i).toNat)
    case atStart => exact ⟨0, _, by omega, rfl, HA.out, HB.out, (fun j hj => by omega), Hbel.out⟩
    case round =>
     obtain ⟨k, l, hk, rfl, hA, hB, Hl, hbel⟩ := hrel
     have hgb := (hB.lt gb rfl).1
     have hll : l.length = 32 := by have := hB.1; simpa [ints] using this
     have HA := Lib.hid hA
     have HB := Lib.hid hB
     have Hbel := Lib.hid hbel
     clear hA hB hbel
     by_cases hlt : k < 32
     ·have hf := HB.out.frozenAt k
      have hcell := HB.out.cellAt k (by omega)
      rw [ints_get (by omega)] at hcell
      go_wp2
      go_roundw
      case rel =>
       refine ⟨k + 1, l.set k 5, by omega, by go_num, ownsRow_setCell_other HA.out (by simpa [Value.ownBlock] using hne) _, by rw [ints_set]; exact (HB.out.stored k _).1, ?_, Hbel.out.setCell hgb _⟩
       intro j hj
       rw [rd_set (by omega)]
       split
       ·rfl
       ·exact Hl.out j (by omega)
      case measure => simp [intOf]; omega
     ·obtain rfl : k = 32 := by omega
      have e : l = fixB := ext_rd (by rw [hll]; rfl) (fun j hj => by rw [Hl.out j (by omega), rd_fixB j (by omega)])
      subst e
      go_wp2
      refine bodyPost_ret (v := .tuple #[.slice (some ⟨ga, 0, none⟩) 288 288, .slice (some ⟨gb, 0, none⟩) 32 32]) (by simp [results, Tryz.results41, go_sem]) rfl ⟨_, _, rfl, HA.out, HB.out, Hbel.out⟩
end Go.Proofs.YtdbkbeojedndbaaGreatDoor
