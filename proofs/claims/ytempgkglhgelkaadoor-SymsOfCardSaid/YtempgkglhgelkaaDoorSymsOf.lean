/-
  SymsOf: what any symbol tells is the document's.
-/
import Derived.Test.YtempgkglhgelkaaDoorSymsBack
import Derived.Test.YtempgkglhgelkaaDoorRef07W
import Derived.OpenShut
namespace Go.Proofs.YtempgkglhgelkaaDoor
open Go.RowKit

set_option maxHeartbeats 4000000 in
set_option maxRecDepth 200000 in
theorem SymsOf_walk (s : Int) (w : World) (hs0 : (Lit.int .i64 s).wf = true) (hc : Tabs w) :
    Calls Tryd.prog 5 #[.int .i64 s] w fun e w' => e = .returned (.bool true) ∧ Below w.heap.size w w' := by
  have Hc := Lib.hid hc
  obtain ⟨hs, hs2⟩ := bounds_i64 hs0
  clear hc hs0
  by_cases h1 : 257 ≤ s ∧ s ≤ 285
  · obtain ⟨h1, h2⟩ := h1
    have e1 : lenOfE s = .returned (.tuple #[.int .i64 (rowL lens (s - 257).toNat), .int .i64 (rowB lens (s - 257).toNat), .bool true]) := if_pos ⟨h1, h2⟩
    have e2 : distOfE s = .returned (.tuple #[.int .i64 0, .int .i64 0, .bool false]) := if_neg (by omega)
    have E1 := Lib.hid e1
    have E2 := Lib.hid e2
    clear e1 e2
    obtain ⟨k, rfl⟩ : ∃ k : Nat, s = 257 + k := ⟨(s - 257).toNat, by omega⟩
    go_enter Tryd.func5, Tryd.ntmps5
    go_wp2_with fail
    refine (awake_calls _ Hc.out).mono ?_; rintro e w1 ⟨rfl, hb1⟩
    have t1 := Lib.hid (Hc.out.below hb1)
    go_wp2_with fail
    refine (LengthOf_calls _ _ (by omega) (by omega) t1.out.1).mono ?_; rintro e w2 ⟨rfl, hb2⟩
    rw [E1.out, show ((257 : Int) + k - 257).toNat = k from by omega]
    have t2 := Lib.hid (t1.out.below hb2)
    go_wp2_with fail
    refine (DistanceOf_calls _ _ (by omega) (by omega) t2.out.2).mono ?_; rintro e w3 ⟨rfl, hb3⟩
    rw [E2.out]
    have H3 : Hid (Below w.heap.size w w3) := below_seq (below_seq hb1 (Nat.le_refl _) hb2) (Nat.le_refl _) hb3
    clear hb1 hb2 hb3 t1 t2 Hc E1 E2
    go_wp2_with fail
    refine (rLengths_calls _).mono ?_; rintro e w4 ⟨v, rfl, hown, hb4⟩
    have H4 : Hid (Below w.heap.size w w4) := below_seq H3.out (Nat.le_refl _) hb4
    clear hb4 H3
    obtain ⟨g, c, rfl, _, hR⟩ := rowsAt_own hown (by decide)
    have z1 := (hR k (by rw [lens_length]; omega)).1
    have z2 := (hR k (by rw [lens_length]; omega)).2
    clear hR hown
    generalize rowL lens k = L at *
    generalize rowB lens k = B at *
    go_wp2
    go_ret
    exact ⟨rfl, below_new H4.out (Nat.le_refl _) _⟩
  · have E1 := Lib.hid (show lenOfE s = .returned (.tuple #[.int .i64 0, .int .i64 0, .bool false]) from if_neg h1)
    by_cases h2 : 0 ≤ s ∧ s ≤ 29
    · obtain ⟨h2, h3⟩ := h2
      have E2 := Lib.hid (show distOfE s = .returned (.tuple #[.int .i64 (rowL dists s.toNat), .int .i64 (rowB dists s.toNat), .bool true]) from if_pos ⟨h2, h3⟩)
      clear h1
      obtain ⟨k, rfl⟩ : ∃ k : Nat, s = k := ⟨s.toNat, by omega⟩
      go_enter Tryd.func5, Tryd.ntmps5
      go_wp2_with fail
      refine (awake_calls _ Hc.out).mono ?_; rintro e w1 ⟨rfl, hb1⟩
      have t1 := Lib.hid (Hc.out.below hb1)
      go_wp2_with fail
      refine (LengthOf_calls _ _ (by omega) (by omega) t1.out.1).mono ?_; rintro e w2 ⟨rfl, hb2⟩
      rw [E1.out]
      have t2 := Lib.hid (t1.out.below hb2)
      go_wp2_with fail
      refine (DistanceOf_calls _ _ (by omega) (by omega) t2.out.2).mono ?_; rintro e w3 ⟨rfl, hb3⟩
      rw [E2.out, Int.toNat_natCast]
      have H3 : Hid (Below w.heap.size w w3) := below_seq (below_seq hb1 (Nat.le_refl _) hb2) (Nat.le_refl _) hb3
      clear hb1 hb2 hb3 t1 t2 Hc E1 E2
      go_wp2_with fail
      refine (rDistances_calls _).mono ?_; rintro e w4 ⟨v, rfl, hown, hb4⟩
      have H4 : Hid (Below w.heap.size w w4) := below_seq H3.out (Nat.le_refl _) hb4
      clear hb4 H3
      obtain ⟨g, c, rfl, _, hR⟩ := rowsAt_own hown (by decide)
      have z1 := (hR k (by rw [dists_length]; omega)).1
      have z2 := (hR k (by rw [dists_length]; omega)).2
      clear hR hown
      generalize rowL dists k = L at *
      generalize rowB dists k = B at *
      go_wp2
      go_ret
      exact ⟨rfl, below_new H4.out (Nat.le_refl _) _⟩
    · have E2 := Lib.hid (show distOfE s = .returned (.tuple #[.int .i64 0, .int .i64 0, .bool false]) from if_neg h2)
      have hways : (s < 0) ∨ (30 ≤ s ∧ s ≤ 256) ∨ 286 ≤ s := by omega
      clear h1 h2
      rcases hways with h | ⟨h, h2⟩ | h
      all_goals
        go_enter Tryd.func5, Tryd.ntmps5
        go_wp2_with fail
        refine (awake_calls _ Hc.out).mono ?_; rintro e w1 ⟨rfl, hb1⟩
        have t1 := Lib.hid (Hc.out.below hb1)
        go_wp2_with fail
        refine (LengthOf_calls _ _ (by omega) (by omega) t1.out.1).mono ?_; rintro e w2 ⟨rfl, hb2⟩
        rw [E1.out]
        have t2 := Lib.hid (t1.out.below hb2)
        go_wp2_with fail
        refine (DistanceOf_calls _ _ (by omega) (by omega) t2.out.2).mono ?_; rintro e w3 ⟨rfl, hb3⟩
        rw [E2.out]
        have H3 : Hid (Below w.heap.size w w3) := below_seq (below_seq hb1 (Nat.le_refl _) hb2) (Nat.le_refl _) hb3
        clear hb1 hb2 hb3 t1 t2 Hc E1 E2
        go_wp2
        go_ret
        exact ⟨rfl, H3.out⟩
#print axioms SymsOf_walk
end Go.Proofs.YtempgkglhgelkaaDoor
