/-
  SymsBack: a symbol, and what follows, tell their number.
-/
import Derived.Test.YtempgkglhgelkaaDoorSymsL
namespace Go.Proofs.YtempgkglhgelkaaDoor
open Go.RowKit

theorem lenOf_sym (n : Int) (h : 3 ≤ n) (h2 : n ≤ 258) : lenOfE (symS 257 lens n) = .returned (.tuple #[.int .i64 (n - symX lens n), .int .i64 (symB lens n), .bool true]) := by
  have h1 := symL_range n h h2
  unfold lenOfE
  rw [if_pos (by omega)]
  have e : (symS 257 lens n - 257).toNat = lastLe lens n lens.length := by unfold symS; omega
  rw [e]
  have e2 : rowL lens (lastLe lens n lens.length) = n - symX lens n := by unfold symX; omega
  rw [e2]
  rfl
theorem distOf_sym (n : Int) (h : 1 ≤ n) (h2 : n ≤ 32768) : distOfE (symS 0 dists n) = .returned (.tuple #[.int .i64 (n - symX dists n), .int .i64 (symB dists n), .bool true]) := by
  have h1 := symD_range n h h2
  unfold distOfE
  rw [if_pos (by omega)]
  have e : (symS 0 dists n).toNat = lastLe dists n dists.length := by unfold symS; omega
  rw [e]
  have e2 : rowL dists (lastLe dists n dists.length) = n - symX dists n := by unfold symX; omega
  rw [e2]
  rfl

set_option maxHeartbeats 1000000 in
theorem SymsBack_walk (n d : Int) (w : World) (ha : (Lit.int .u16 n).wf = true) (hb : (Lit.int .u16 d).wf = true) (hc : Tabs w) :
    Calls Tryd.prog 6 #[.int .u16 n, .int .u16 d] w fun e w' => e = .returned (.bool true) ∧ Below w.heap.size w w' := by
  have Hc := Lib.hid hc
  obtain ⟨hn, hn2⟩ := bounds_of_u16 ha
  obtain ⟨hd, hd2⟩ := bounds_of_u16 hb
  clear hc ha hb
  have hx1 : 3 ≤ 3 + n % 256 := by omega
  have hx2 : 3 + n % 256 ≤ 258 := by omega
  have hy1 : 1 ≤ 1 + d % 32768 := by omega
  have hy2 : 1 + d % 32768 ≤ 32768 := by omega
  go_enter Tryd.func6, Tryd.ntmps6
  go_wp2_with fail
  refine (awake_calls _ Hc.out).mono ?_; rintro e w1 ⟨rfl, hb1⟩
  have t1 := Lib.hid (Hc.out.below hb1)
  go_wp2_with fail
  refine (Length_calls _ _ (by omega) (by omega) t1.out.1).mono ?_; rintro e w2 ⟨rfl, hb2⟩
  have t2 := Lib.hid (t1.out.below hb2)
  rw [clampL_in (by omega) (by omega)]
  go_wp2_with fail
  refine (Distance_calls _ _ (by omega) (by omega) t2.out.2).mono ?_; rintro e w3 ⟨rfl, hb3⟩
  have t3 := Lib.hid (t2.out.below hb3)
  rw [clampD_in (by omega) (by omega)]
  have HL := Lib.hid (lenOf_sym (3 + n % 256) hx1 hx2)
  have HD := Lib.hid (distOf_sym (1 + d % 32768) hy1 hy2)
  have hrL := symL_range (3 + n % 256) hx1 hx2
  have hrD := symD_range (1 + d % 32768) hy1 hy2
  have HxL := Lib.hid (symXL_lt (3 + n % 256) hx1 hx2)
  have HxD := Lib.hid (symXD_lt (1 + d % 32768) hy1 hy2)
  generalize symS 257 lens (3 + n % 256) = S at *
  generalize symB lens (3 + n % 256) = B at *
  generalize symX lens (3 + n % 256) = X at *
  generalize symS 0 dists (1 + d % 32768) = S' at *
  generalize symB dists (1 + d % 32768) = B' at *
  generalize symX dists (1 + d % 32768) = X' at *
  go_wp2_with fail
  refine (LengthOf_calls _ _ (by omega) (by omega) ((t3.out.alloc _).alloc _).1).mono ?_; rintro e w4 ⟨rfl, hb4⟩
  have t4 := Lib.hid (((t3.out.alloc _).alloc _).below hb4)
  have a0 := kept_cell hb4 (a := ⟨w3.heap.size, 0, none⟩) (by simp; rfl)
  have a1 := kept_cell hb4 (a := ⟨w3.heap.size, 1, none⟩) (by simp; rfl)
  have a2 := kept_cell hb4 (a := ⟨w3.heap.size, 2, none⟩) (by simp; rfl)
  have b0 := kept_cell hb4 (a := ⟨w3.heap.size + 1, 0, none⟩) (by simp; rfl)
  have b1 := kept_cell hb4 (a := ⟨w3.heap.size + 1, 1, none⟩) (by simp; rfl)
  have b2 := kept_cell hb4 (a := ⟨w3.heap.size + 1, 2, none⟩) (by simp; rfl)
  rw [HL.out]
  go_wp2_with fail
  refine (DistanceOf_calls _ _ (by omega) (by omega) t4.out.2).mono ?_; rintro e w5 ⟨rfl, hb5⟩
  replace a0 := kept_cell hb5 a0
  replace a1 := kept_cell hb5 a1
  replace a2 := kept_cell hb5 a2
  replace b0 := kept_cell hb5 b0
  replace b1 := kept_cell hb5 b1
  replace b2 := kept_cell hb5 b2
  rw [HD.out]
  have H5 : Hid (Below w.heap.size w w5) := below_seq (below_seq (below_new (below_new (below_seq (below_seq hb1 (Nat.le_refl _) hb2) (Nat.le_refl _) hb3) (Nat.le_refl _) _) (Nat.le_refl _) _) (Nat.le_refl _) hb4) (Nat.le_refl _) hb5
  clear hb1 hb2 hb3 hb4 hb5 t1 t2 t3 t4
  have g1 : X / 2 ^ B.toNat = 0 := Int.ediv_eq_zero_of_lt (by omega) HxL.out
  have g2 : X' / 2 ^ B'.toNat = 0 := Int.ediv_eq_zero_of_lt (by omega) HxD.out
  go_wp2
  go_ret
  exact ⟨rfl, H5.out⟩
end Go.Proofs.YtempgkglhgelkaaDoor
