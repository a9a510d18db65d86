/-
  The walks of the reference's tables (inkwellref07): Lengths, Distances, Of.
-/
import Derived.Test.YtempgkglhgelkaaDoorSymsW
import Derived.Test.YtempgkglhgelkaaDoorB
namespace Go.Proofs.YtempgkglhgelkaaDoor
open Go.RowKit

/-- Rows as cells. -/
def rowCells (rows : List (Int × Int)) : List Value := rows.flatMap fun r => [.int .i64 r.1, .int .i64 r.2]
theorem rowCells_length (rows : List (Int × Int)) : (rowCells rows).length = rows.length * 2 := by
  induction rows with
  | nil => rfl
  | cons r rows ih => simp [rowCells] at *; omega
theorem rowCells_append (r s : List (Int × Int)) : rowCells (r ++ s) = rowCells r ++ rowCells s := by simp [rowCells]
theorem elRow : ElT Tryd.prog 31 35 (.agg #[.int .i64 0, .int .i64 0]) 2 16 := ⟨Tryd.underlying31, by kernel_rfl, rfl, by decide, by decide⟩

theorem take_rows (rows : List (Int × Int)) (k : Nat) (h : k < rows.length) : rowCells (rows.take (k + 1)) = rowCells (rows.take k) ++ [.int .i64 (rowL rows k), .int .i64 (rowB rows k)] := by
  rw [List.take_succ_eq_append_getElem h, rowCells_append]
  simp [rowCells, rowL, rowB, List.getD_eq_getElem?_getD, List.getElem?_eq_getElem h]
theorem lens_bits : ∀ k : Nat, k < 28 → (if (k : Int) / 4 - 1 < 0 then 0 else (k : Int) / 4 - 1) = rowB lens k := by decide
theorem lens_next : ∀ k : Nat, k < 28 → k + 1 < 28 → wrap64 (rowL lens k + wrap64 (2 ^ (if (k : Int) / 4 - 1 < 0 then 0 else (k : Int) / 4 - 1).toNat)) = rowL lens (k + 1) := by decide +kernel
theorem dists_bits : ∀ k : Nat, k < 30 → (if (k : Int) / 2 - 1 < 0 then 0 else (k : Int) / 2 - 1) = rowB dists k := by decide
theorem dists_next : ∀ k : Nat, k < 30 → k + 1 < 30 → wrap64 (rowL dists k + wrap64 (2 ^ (if (k : Int) / 2 - 1 < 0 then 0 else (k : Int) / 2 - 1).toNat)) = rowL dists (k + 1) := by decide +kernel

set_option maxHeartbeats 400000 in
set_option maxRecDepth 100000 in
theorem rLengths_calls (w : World) :
    Calls Tryd.prog 15 #[] w fun e w' => ∃ v, e = .returned v ∧ w'.ownsRow w.heap.size 35 2 v 29 (rowCells lens) ∧ Below w.heap.size w w' := by
  go_enter Tryd.func15, Tryd.ntmps15
  go_wp2
  go_loopw [1, 2, 3] (fun v l i wr => ∃ k : Nat, k ≤ 28 ∧ i = .int .i64 k ∧ (k < 28 → l = .int .i64 (rowL lens k)) ∧ wr.ownsRow w.heap.size 35 2 v k (rowCells (lens.take k)) ∧ Below w.heap.size w wr) (fun _ _ i _ => 28 - (intOf i).toNat)
  case atStart => exact ⟨0, by omega, rfl, fun _ => rfl, World.ownsRow_nil _ _ _ _, Below.refl _ _⟩
  case round =>
    obtain ⟨k, hk, rfl, hl, hown, hbel⟩ := hrel
    have Hown := Lib.hid hown
    have Hbel := Lib.hid hbel
    have hsz := hbel.size
    clear hown hbel
    by_cases hlt : k < 28
    · obtain rfl := hl hlt
      have hr := lens_range k (by omega)
      clear hl
      go_wp2_with (at_builtin; refine wpList_app1 rfl _ _ rfl elRow Hown.out rfl rfl rfl rfl (by omega) (by omega) ?_; intro v' w' hown' hbel' _)
      go_roundw
      case rel =>
        rw [lens_bits k hlt] at hown'
        exact ⟨k + 1, by omega, by go_num, fun h => by rw [lens_next k hlt h], by rw [take_rows lens k (by rw [lens_length]; omega)]; exact hown', Hbel.out.trans hbel'⟩
      case measure => simp [intOf]; omega
    · obtain rfl : k = 28 := by omega
      clear hl
      go_wp2_with (at_builtin; refine wpList_app1 rfl _ _ rfl elRow Hown.out rfl rfl rfl rfl (by omega) (by omega) ?_; intro v' w' hown' hbel' _)
      go_ret
      exact ⟨v', rfl, hown', Hbel.out.trans hbel'⟩

set_option maxHeartbeats 400000 in
set_option maxRecDepth 100000 in
theorem rDistances_calls (w : World) :
    Calls Tryd.prog 16 #[] w fun e w' => ∃ v, e = .returned v ∧ w'.ownsRow w.heap.size 35 2 v 30 (rowCells dists) ∧ Below w.heap.size w w' := by
  go_enter Tryd.func16, Tryd.ntmps16
  go_wp2
  go_loopw [1, 2, 3] (fun v l i wr => ∃ k : Nat, k ≤ 30 ∧ i = .int .i64 k ∧ (k < 30 → l = .int .i64 (rowL dists k)) ∧ wr.ownsRow w.heap.size 35 2 v k (rowCells (dists.take k)) ∧ Below w.heap.size w wr) (fun _ _ i _ => 30 - (intOf i).toNat)
  case atStart => exact ⟨0, by omega, rfl, fun _ => rfl, World.ownsRow_nil _ _ _ _, Below.refl _ _⟩
  case round =>
    obtain ⟨k, hk, rfl, hl, hown, hbel⟩ := hrel
    have Hown := Lib.hid hown
    have Hbel := Lib.hid hbel
    have hsz := hbel.size
    clear hown hbel
    by_cases hlt : k < 30
    · obtain rfl := hl hlt
      have hr := dists_range k (by omega)
      clear hl
      go_wp2_with (at_builtin; refine wpList_app1 rfl _ _ rfl elRow Hown.out rfl rfl rfl rfl (by omega) (by omega) ?_; intro v' w' hown' hbel' _)
      go_roundw
      case rel =>
        rw [dists_bits k hlt] at hown'
        exact ⟨k + 1, by omega, by go_num, fun h => by rw [dists_next k hlt h], by rw [take_rows dists k (by rw [dists_length]; omega)]; exact hown', Hbel.out.trans hbel'⟩
      case measure => simp [intOf]; omega
    · obtain rfl : k = 30 := by omega
      clear hl
      go_wp2_with fail
      go_ret
      exact ⟨_, rfl, Hown.out, Hbel.out⟩

theorem rowsAt_own {w : World} {base n : Nat} {e : TypeId} {v : Value} {rows : List (Int × Int)} (h : w.ownsRow base e 2 v n (rowCells rows)) (h0 : 0 < n) : ∃ g c, v = .slice (some ⟨g, 0, none⟩) n c ∧ n ≤ c ∧ RowsAt w g rows := by
  obtain ⟨g, c, hv, _, _, hc, hcell, _⟩ := own_form h h0
  refine ⟨g, c, hv, hc, fun j hj => ?_⟩
  have key : ∀ (l : List (Int × Int)) (j : Nat), j < l.length → (rowCells l)[j * 2]? = some (.int .i64 (rowL l j)) ∧ (rowCells l)[j * 2 + 1]? = some (.int .i64 (rowB l j)) := by
    intro l
    induction l with
    | nil => intro j hj; simp at hj
    | cons r l ih =>
      intro j hj
      cases j with
      | zero => exact ⟨rfl, rfl⟩
      | succ j =>
        have := ih j (by simpa using hj)
        have e1 : (rowCells (r :: l))[(j + 1) * 2]? = (rowCells l)[j * 2]? := by rw [show (j + 1) * 2 = j * 2 + 1 + 1 from by omega]; rfl
        have e2 : (rowCells (r :: l))[(j + 1) * 2 + 1]? = (rowCells l)[j * 2 + 1]? := by rw [show (j + 1) * 2 + 1 = j * 2 + 1 + 1 + 1 from by omega]; rfl
        rw [e1, e2]
        exact this
  obtain ⟨k1, k2⟩ := key rows j hj
  exact ⟨hcell _ _ k1, hcell _ _ k2⟩

set_option maxHeartbeats 400000 in
theorem rOf_calls (n : Int) (rows : List (Int × Int)) (g len c : Nat) (w : World) (hlen : rows.length = len) (hn : 0 ≤ n) (hn2 : n ≤ 40000) (hl : 0 < len) (hl2 : len ≤ 100)
   (hr : ∀ j, j < len → 0 ≤ rowL rows j ∧ rowL rows j ≤ 40000) (hc : RowsAt w g rows) :
    Calls Tryd.prog 14 #[.int .i64 n, .slice (some ⟨g, 0, none⟩) len c] w fun e w' =>
      e = .returned (.tuple #[.int .i64 (lastLe rows n len), .int .i64 (symX rows n)]) ∧ Below w.heap.size w w' := by
  have Hc := Lib.hid hc
  have Hr := Lib.hid hr
  have Hlen := Lib.hid hlen
  clear hc hr hlen
  go_enter Tryd.func14, Tryd.ntmps14
  go_wp2
  go_loop [6, 7] (fun at_ i => ∃ k m : Nat, k ≤ len ∧ i = .int .i64 k ∧ at_ = .int .i64 m ∧ m < len ∧ Hid (m = lastLe rows n k)) (fun _ i => len - (intOf i).toNat)
  case atStart => exact ⟨0, 0, by omega, rfl, rfl, hl, rfl⟩
  case round =>
    obtain ⟨k, m, hk, rfl, rfl, hm, Hm⟩ := hrel
    by_cases hlt : k < len
    · have hz := (Hc.out k (Hlen.out ▸ hlt)).1
      have hb := Hr.out k hlt
      go_wp2
      all_goals
        go_round
        case rel =>
          first
          | exact ⟨k + 1, k, by omega, by go_num, by go_num, hlt, (lastLe_hit rows n k (by assumption)).symm⟩
          | exact ⟨k + 1, m, by omega, by go_num, rfl, hm, Hm.out.trans (lastLe_miss rows n k (by assumption)).symm⟩
        case measure => simp [intOf]; omega
    · have hk2 : k = len := by omega
      have hz := (Hc.out m (Hlen.out ▸ hm)).1
      have hb := Hr.out m hm
      have Hk := Lib.hid hk2
      have hk3 : len ≤ k := by omega
      clear hk2
      go_wp2
      go_region
      go_wp2
      go_ret2
      refine ⟨?_, (Below.refl _ _).drew⟩
      have e := Hm.out
      rw [Hk.out] at e
      unfold symX
      rw [Hlen.out, ← e]
      rfl
#print axioms rOf_calls
end Go.Proofs.YtempgkglhgelkaaDoor
