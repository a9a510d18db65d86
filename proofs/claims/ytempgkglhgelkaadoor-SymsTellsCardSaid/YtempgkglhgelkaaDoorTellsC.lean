/-
  SymsTells: the symbol of any byte, length and distance is the document's.
-/
import Derived.Test.YtempgkglhgelkaaDoorSymsBack
import Derived.Test.YtempgkglhgelkaaDoorRef07W
import Derived.OpenShut
import Derived.Deep.RegionWith
import Derived.Deep.RegionHeld3
import Derived.IntWalk
namespace Go.Proofs.YtempgkglhgelkaaDoor
open Go.RowKit
set_option linter.unusedSimpArgs false

theorem clampL_two (n : Int) : ∃ c, (if n < 3 then (3 : Int) else n) = c ∧ (if 258 < c then (258 : Int) else c) = clampL n := by
  refine ⟨_, rfl, ?_⟩
  unfold clampL; split <;> (try split) <;> (try split) <;> omega
theorem clampD_two (n : Int) : ∃ c, (if n < 1 then (1 : Int) else n) = c ∧ (if 32768 < c then (32768 : Int) else c) = clampD n := by
  refine ⟨_, rfl, ?_⟩
  unfold clampD; split <;> (try split) <;> (try split) <;> omega

theorem symEq (w : World) (a b c a' b' c' : Int) : (binOp .eql 26 (.agg #[.int .i64 a, .int .i64 b, .int .u64 c]) (.agg #[.int .i64 a', .int .i64 b', .int .u64 c'])).run Tryd.prog w = .ok (.bool (a == a' && (b == b' && (c == c' && true)))) w :=
  binEql_of (eqStruct_of Tryd.underlying26 (by kernel_rfl) (eqFields_cons rfl (by go_simp) (by go_simp) (eqInt_of Tryd.underlying3 _ _) (eqFields_cons rfl (by go_simp) (by go_simp) (eqInt_of Tryd.underlying3 _ _) (eqFields_cons rfl (by go_simp) (by go_simp) (eqInt_of Tryd.underlying24 _ _) eqFields_nil))))

/-- What the great region reads besides. -/
abbrev SS (w w' : World) (h7 : Nat) (S B X j B' X' : Int) : Prop := w'.cell? ⟨h7, 0, none⟩ = some (.int .i64 S) ∧ w'.cell? ⟨h7, 1, none⟩ = some (.int .i64 B) ∧ w'.cell? ⟨h7, 2, none⟩ = some (.int .u64 X) ∧ w'.cell? ⟨h7 + 1, 0, none⟩ = some (.int .i64 j) ∧ w'.cell? ⟨h7 + 1, 1, none⟩ = some (.int .i64 B') ∧ w'.cell? ⟨h7 + 1, 2, none⟩ = some (.int .u64 X') ∧ Below w.heap.size w w'
theorem SS.step {w w1 w2 : World} {h7 : Nat} {S B X j B' X' : Int} (h : SS w w1 h7 S B X j B' X') (hb : Below w1.heap.size w1 w2) : SS w w2 h7 S B X j B' X' :=
  ⟨kept_cell hb h.1, kept_cell hb h.2.1, kept_cell hb h.2.2.1, kept_cell hb h.2.2.2.1, kept_cell hb h.2.2.2.2.1, kept_cell hb h.2.2.2.2.2.1, below_seq h.2.2.2.2.2.2 (Nat.le_refl _) hb⟩
theorem SS.drew {w w1 : World} {h7 : Nat} {S B X j B' X' : Int} (h : SS w w1 h7 S B X j B' X') : SS w w1.drew h7 S B X j B' X' := SS.step h (Below.refl _ _).drew

set_option maxHeartbeats 16000000 in
set_option maxRecDepth 2000000 in
theorem SymsTells_walk (b n d : Int) (w : World) (hb0 : (Lit.int .u8 b).wf = true) (hn0 : (Lit.int .i64 n).wf = true) (hd0 : (Lit.int .i64 d).wf = true) (hc : Tabs w) :
    Calls Tryd.prog 4 #[.int .u8 b, .int .i64 n, .int .i64 d] w fun e w' => e = .returned (.bool true) ∧ Below w.heap.size w w' := by
  have Hc := Lib.hid hc
  obtain ⟨hb, hb2⟩ := bounds_u8 hb0
  obtain ⟨hn, hn2⟩ := bounds_i64 hn0
  obtain ⟨hd, hd2⟩ := bounds_i64 hd0
  clear hc hb0 hn0 hd0
  obtain ⟨c1, e1, e2⟩ := clampL_two n
  obtain ⟨c2, e3, e4⟩ := clampD_two d
  have hx := clampL_range n
  have hy := clampD_range d
  go_enter Tryd.func4, Tryd.ntmps4
  go_wp2_with fail
  refine (awake_calls _ Hc.out).mono ?_; rintro e w1 ⟨rfl, hb1⟩
  have t1 := Lib.hid (Hc.out.below hb1)
  go_wp2_with fail
  refine (rLengths_calls _).mono ?_; rintro e w2 ⟨v, rfl, hown, hb2'⟩
  have t2 := Lib.hid (t1.out.below hb2')
  obtain ⟨g, c, rfl, _, hR⟩ := rowsAt_own hown (by decide)
  have HR := Lib.hid hR
  clear hR hown
  go_wp2_with fail
  refine (rOf_calls _ lens _ 29 _ _ rfl (by omega) (by omega) (by omega) (by omega) (fun j hj => by have := lens_range j hj; omega) HR.out).mono ?_; rintro e w3 ⟨rfl, hb3⟩
  have t3 := Lib.hid (t2.out.below hb3)
  go_wp2_with fail
  refine (rDistances_calls _).mono ?_; rintro e w4 ⟨v, rfl, hown, hb4⟩
  have t4 := Lib.hid (t3.out.below hb4)
  obtain ⟨g', c', rfl, _, hR'⟩ := rowsAt_own hown (by decide)
  have HR' := Lib.hid hR'
  clear hR' hown HR
  go_wp2_with fail
  refine (rOf_calls _ dists _ 30 _ _ rfl (by omega) (by omega) (by omega) (by omega) (fun j hj => by have := dists_range j hj; omega) HR'.out).mono ?_; rintro e w5 ⟨rfl, hb5⟩
  have t5 := Lib.hid (t4.out.below hb5)
  clear HR'
  have H5 : Hid (Below w.heap.size w w5) := below_seq (below_seq (below_seq (below_seq hb1 (Nat.le_refl _) hb2') (Nat.le_refl _) hb3) (Nat.le_refl _) hb4) (Nat.le_refl _) hb5
  clear hb1 hb2' hb3 hb4 hb5 t1 t2 t3 t4
  have hsz5 := H5.out.size
  go_wp2_with fail
  refine (Length_calls _ _ (by omega) (by omega) t5.out.1).mono ?_; rintro e w6 ⟨rfl, hb6⟩
  have t6 := Lib.hid (t5.out.below hb6)
  go_wp2_with fail
  refine (Distance_calls _ _ (by omega) (by omega) t6.out.2).mono ?_; rintro e w7 ⟨rfl, hb7⟩
  have H7 : Hid (Below w.heap.size w w7) := below_seq (below_seq H5.out (Nat.le_refl _) hb6) (Nat.le_refl _) hb7
  clear hb6 hb7 t5 t6 H5
  clear e1 e2 e3 e4
  go_wp2_with fail
  have hL := lastLe_lt lens (clampL n) 29 (by decide)
  have hD := lastLe_lt dists (clampD d) 30 (by decide)
  have rL := symL_range _ hx.1 hx.2
  have rD := symD_range _ hy.1 hy.2
  have eL : symS 257 lens (clampL n) = 257 + (lastLe lens (clampL n) 29 : Nat) := rfl
  have eD : symS 0 dists (clampD d) = (lastLe dists (clampD d) 30 : Nat) := by unfold symS; rw [dists_length]; omega
  have EBL := Lib.hid (show symB lens (clampL n) = rowB lens (lastLe lens (clampL n) 29) from rfl)
  have EBD := Lib.hid (show symB dists (clampD d) = rowB dists (lastLe dists (clampD d) 30) from rfl)
  rw [eL] at rL ⊢
  rw [eD] at rD ⊢
  clear eL eD
  generalize lastLe lens (clampL n) 29 = i at *
  generalize lastLe dists (clampD d) 30 = j at *
  generalize symB lens (clampL n) = B at *
  generalize symX lens (clampL n) = X at *
  generalize symB dists (clampD d) = B' at *
  generalize symX dists (clampD d) = X' at *
  obtain ⟨h7, e7⟩ : ∃ h, h = w7.heap.size := ⟨_, rfl⟩
  have A0 : ((w7.alloc (.cells #[.int .i64 (257 + i), .int .i64 B, .int .u64 X] 26)).alloc (.cells #[.int .i64 j, .int .i64 B', .int .u64 X'] 26)).cell? ⟨h7, 0, none⟩ = some (.int .i64 (257 + i)) := by rw [e7]; simp
  have A1 : ((w7.alloc (.cells #[.int .i64 (257 + i), .int .i64 B, .int .u64 X] 26)).alloc (.cells #[.int .i64 j, .int .i64 B', .int .u64 X'] 26)).cell? ⟨h7, 1, none⟩ = some (.int .i64 B) := by rw [e7]; simp
  have A2 : ((w7.alloc (.cells #[.int .i64 (257 + i), .int .i64 B, .int .u64 X] 26)).alloc (.cells #[.int .i64 j, .int .i64 B', .int .u64 X'] 26)).cell? ⟨h7, 2, none⟩ = some (.int .u64 X) := by rw [e7]; simp
  have B0 : ((w7.alloc (.cells #[.int .i64 (257 + i), .int .i64 B, .int .u64 X] 26)).alloc (.cells #[.int .i64 j, .int .i64 B', .int .u64 X'] 26)).cell? ⟨h7 + 1, 0, none⟩ = some (.int .i64 j) := by rw [e7]; simp
  have B1 : ((w7.alloc (.cells #[.int .i64 (257 + i), .int .i64 B, .int .u64 X] 26)).alloc (.cells #[.int .i64 j, .int .i64 B', .int .u64 X'] 26)).cell? ⟨h7 + 1, 1, none⟩ = some (.int .i64 B') := by rw [e7]; simp
  have B2 : ((w7.alloc (.cells #[.int .i64 (257 + i), .int .i64 B, .int .u64 X] 26)).alloc (.cells #[.int .i64 j, .int .i64 B', .int .u64 X'] 26)).cell? ⟨h7 + 1, 2, none⟩ = some (.int .u64 X') := by rw [e7]; simp
  have H8 : Below w.heap.size w ((w7.alloc (.cells #[.int .i64 (257 + i), .int .i64 B, .int .u64 X] 26)).alloc (.cells #[.int .i64 j, .int .i64 B', .int .u64 X'] 26)) := below_new (below_new H7.out (Nat.le_refl _) _) (Nat.le_refl _) _
  rw [← e7]
  generalize ((w7.alloc (.cells #[.int .i64 (257 + i), .int .i64 B, .int .u64 X] 26)).alloc (.cells #[.int .i64 j, .int .i64 B', .int .u64 X'] 26)) = W0 at *
  have S0 : SS w W0 h7 (257 + i) B X j B' X' := ⟨A0, A1, A2, B0, B1, B2, H8⟩
  clear A0 A1 A2 B0 B1 B2 H8
  have hEq : ∀ w, (binOp .eql 26 (.agg #[.int .i64 b, .int .i64 0, .int .u64 0]) (.agg #[.int .i64 b, .int .i64 0, .int .u64 0])).run Tryd.prog w = .ok (.bool true) w := fun w => by rw [symEq]; simp
  have s1 : IntKind.i64.wrap b = b := IntWalk.i64_in _ (by omega)
  have s2 : IntKind.i64.wrap (257 + (i : Int)) = 257 + i := IntWalk.i64_in _ (by omega)
  have s3 : IntKind.u64.wrap X = X := IntWalk.u64_in _ (by omega)
  have s4 : IntKind.u64.wrap X' = X' := IntWalk.u64_in _ (by omega)
  have hL1 : (i : Int) < 29 := by omega
  have hD1 : (j : Int) < 30 := by omega
  have hL0 : (0 : Int) ≤ i := by omega
  have hD0 : (0 : Int) ≤ j := by omega
  clear hn hn2 hd hd2 hsz5 Hc H7 hx hy e7
  refine wp_region_noPanic ?_
  refine wp_region_held_drew (S := (fun w' => w'.cell? ⟨h7, 0, none⟩ = some (.int .i64 (257 + i)) ∧ w'.cell? ⟨h7, 1, none⟩ = some (.int .i64 B) ∧ w'.cell? ⟨h7, 2, none⟩ = some (.int .u64 X) ∧ w'.cell? ⟨h7 + 1, 0, none⟩ = some (.int .i64 j) ∧ w'.cell? ⟨h7 + 1, 1, none⟩ = some (.int .i64 B') ∧ w'.cell? ⟨h7 + 1, 2, none⟩ = some (.int .u64 X') ∧ Below w.heap.size w w')) (by kernel_rfl) S0.drew (fun hHeld => ?_)
  refine' wpAnyH_take (i := 0) (oi := ⟨_, _, _, _, _, _⟩) (v := _) rfl (by kernel_rfl) (by kernel_rfl) (by kernel_rfl) (fun _ _ _ h => h) (Or.inl ⟨by rfl, ?hy0⟩) (by assumption) ?rest0
  case hy0 => (intro w hSw; (try dsimp only at hSw); go_simp; try with_reducible rfl)
  try simp only [Act.put, List.setIfInBounds_toArray, List.set_cons_zero, List.set_cons_succ]
  refine' wpAnyH_take (i := 2) (oi := ⟨_, _, _, _, _, _⟩) (v := _) rfl (by kernel_rfl) (by kernel_rfl) (by kernel_rfl) (fun _ _ _ h => h) (Or.inl ⟨by rfl, ?hy2⟩) (by assumption) ?rest2
  case hy2 => (intro w hSw; (try dsimp only at hSw); go_simp; try with_reducible rfl)
  try simp only [Act.put, List.setIfInBounds_toArray, List.set_cons_zero, List.set_cons_succ]
  refine' wpAnyH_take (i := 3) (oi := ⟨_, _, _, _, _, _⟩) (v := _) rfl (by kernel_rfl) (by kernel_rfl) (by kernel_rfl) (fun _ _ _ h => h) (Or.inl ⟨by rfl, ?hy3⟩) (by assumption) ?rest3
  case hy3 => (intro w hSw; (try dsimp only at hSw); go_simp; try with_reducible rfl)
  try simp only [Act.put, List.setIfInBounds_toArray, List.set_cons_zero, List.set_cons_succ]
  refine' wpAnyH_take (i := 4) (oi := ⟨_, _, _, _, _, _⟩) (v := _) rfl (by kernel_rfl) (by kernel_rfl) (by kernel_rfl) (fun _ _ _ h => h) (Or.inl ⟨by rfl, ?hy4⟩) (by assumption) ?rest4
  case hy4 => (intro w hSw; (try dsimp only at hSw); go_simp; try with_reducible rfl)
  try simp only [Act.put, List.setIfInBounds_toArray, List.set_cons_zero, List.set_cons_succ]
  refine wpAnyH_ready (rs := [1]) (by kernel_rfl) (by simp) ?_
  refine AllReadyH.cons (o := ⟨_, _, _, _, _, _⟩) rfl (fun K hK => ?_) AllReadyH.nil
  go_simp
  go_at_call 17
  refine (Literal_calls _ _ (by omega) (by omega)).mono ?_
  rintro e w8 ⟨rfl, hb8⟩
  have S8 : SS w w8 h7 (257 + i) B X j B' X' := SS.step (by assumption) hb8
  clear hb8
  refine hK.out _ _ S8 (fun hHeld => ?_)
  clear hK K
  try simp only [Act.put, List.setIfInBounds_toArray, List.set_cons_zero, List.set_cons_succ]
  refine' wpAnyH_take (i := 5) (oi := ⟨_, _, _, _, _, _⟩) (v := _) rfl (by kernel_rfl) (by kernel_rfl) (by kernel_rfl) (fun _ _ _ h => h) (Or.inl ⟨by rfl, ?hy5⟩) (by assumption) ?rest5
  case hy5 => (intro w hSw; (try dsimp only at hSw); go_simp; try with_reducible rfl)
  try simp only [Act.put, List.setIfInBounds_toArray, List.set_cons_zero, List.set_cons_succ]
  refine' wpAnyH_take (i := 6) (oi := ⟨_, _, _, _, _, _⟩) (v := _) rfl (by kernel_rfl) (by kernel_rfl) (by kernel_rfl) (fun _ _ _ h => h) (Or.inl ⟨by rfl, ?hy6⟩) (by assumption) ?rest6
  case hy6 => (intro w hSw; (try dsimp only at hSw); go_simp; try with_reducible rfl)
  try simp only [Act.put, List.setIfInBounds_toArray, List.set_cons_zero, List.set_cons_succ]
  refine' wpAnyH_take (i := 7) (oi := ⟨_, _, _, _, _, _⟩) (v := _) rfl (by kernel_rfl) (by kernel_rfl) (by kernel_rfl) (fun _ _ _ h => h) (Or.inl ⟨by rfl, ?hy7⟩) (by assumption) ?rest7
  case hy7 => (intro w hSw; (try dsimp only at hSw); go_simp; try with_reducible rfl)
  try simp only [Act.put, List.setIfInBounds_toArray, List.set_cons_zero, List.set_cons_succ]
  refine' wpAnyH_take (i := 8) (oi := ⟨_, _, _, _, _, _⟩) (v := _) rfl (by kernel_rfl) (by kernel_rfl) (by kernel_rfl) (fun _ _ _ h => h) (Or.inl ⟨by rfl, ?hy8⟩) (by assumption) ?rest8
  case hy8 => (intro w hSw; (try dsimp only at hSw); go_simp; try with_reducible rfl)
  try simp only [Act.put, List.setIfInBounds_toArray, List.set_cons_zero, List.set_cons_succ]
  refine' wpAnyH_take (i := 9) (oi := ⟨_, _, _, _, _, _⟩) (v := _) rfl (by kernel_rfl) (by kernel_rfl) (by kernel_rfl) (fun _ _ _ h => h) (Or.inl ⟨by rfl, ?hy9⟩) (by assumption) ?rest9
  case hy9 => (intro w hSw; (try dsimp only at hSw); go_simp; try with_reducible rfl)
  try simp only [Act.put, List.setIfInBounds_toArray, List.set_cons_zero, List.set_cons_succ]
  refine' wpAnyH_take (i := 10) (oi := ⟨_, _, _, _, _, _⟩) (v := _) rfl (by kernel_rfl) (by kernel_rfl) (by kernel_rfl) (fun _ _ _ h => h) (Or.inl ⟨by rfl, ?hy10⟩) (by assumption) ?rest10
  case hy10 => (intro w hSw; (try dsimp only at hSw); go_simp; try with_reducible rfl)
  try simp only [Act.put, List.setIfInBounds_toArray, List.set_cons_zero, List.set_cons_succ]
  refine' wpAnyH_take (i := 11) (oi := ⟨_, _, _, _, _, _⟩) (v := _) rfl (by kernel_rfl) (by kernel_rfl) (by kernel_rfl) (fun _ _ _ h => h) (Or.inl ⟨by rfl, ?hy11⟩) (by assumption) ?rest11
  case hy11 => (intro w hSw; (try dsimp only at hSw); go_simp; try with_reducible rfl)
  try simp only [Act.put, List.setIfInBounds_toArray, List.set_cons_zero, List.set_cons_succ]
  refine' wpAnyH_take (i := 12) (oi := ⟨_, _, _, _, _, _⟩) (v := _) rfl (by kernel_rfl) (by kernel_rfl) (by kernel_rfl) (fun _ _ _ h => h) (Or.inl ⟨by rfl, ?hy12⟩) (by assumption) ?rest12
  case hy12 => (intro w hSw; (try dsimp only at hSw); go_simp; try with_reducible rfl)
  try simp only [Act.put, List.setIfInBounds_toArray, List.set_cons_zero, List.set_cons_succ]
  refine' wpAnyH_take (i := 13) (oi := ⟨_, _, _, _, _, _⟩) (v := _) rfl (by kernel_rfl) (by kernel_rfl) (by kernel_rfl) (fun _ _ _ h => h) (Or.inl ⟨by rfl, ?hy13⟩) (by assumption) ?rest13
  case hy13 => (intro w hSw; (try dsimp only at hSw); go_simp; try with_reducible rfl)
  try simp only [Act.put, List.setIfInBounds_toArray, List.set_cons_zero, List.set_cons_succ]
  refine' wpAnyH_take (i := 14) (oi := ⟨_, _, _, _, _, _⟩) (v := _) rfl (by kernel_rfl) (by kernel_rfl) (by kernel_rfl) (fun _ _ _ h => h) (Or.inl ⟨by rfl, ?hy14⟩) (by assumption) ?rest14
  case hy14 => (intro w hSw; (try dsimp only at hSw); go_simp; try with_reducible rfl)
  try simp only [Act.put, List.setIfInBounds_toArray, List.set_cons_zero, List.set_cons_succ]
  refine' wpAnyH_take (i := 15) (oi := ⟨_, _, _, _, _, _⟩) (v := _) rfl (by kernel_rfl) (by kernel_rfl) (by kernel_rfl) (fun _ _ _ h => h) (Or.inl ⟨by rfl, ?hy15⟩) (by assumption) ?rest15
  case hy15 => (intro w hSw; (try dsimp only at hSw); go_simp; try with_reducible rfl)
  try simp only [Act.put, List.setIfInBounds_toArray, List.set_cons_zero, List.set_cons_succ]
  refine' wpAnyH_take (i := 17) (oi := ⟨_, _, _, _, _, _⟩) (v := _) rfl (by kernel_rfl) (by kernel_rfl) (by kernel_rfl) (fun _ _ _ h => h) (Or.inl ⟨by rfl, ?hy17⟩) (by assumption) ?rest17
  case hy17 => (intro w hSw; (try dsimp only at hSw); go_simp; try with_reducible rfl)
  try simp only [Act.put, List.setIfInBounds_toArray, List.set_cons_zero, List.set_cons_succ]
  refine wpAnyH_ready (rs := [16]) (by kernel_rfl) (by simp) ?_
  refine AllReadyH.cons (o := ⟨_, _, _, _, _, _⟩) rfl (fun K hK => ?_) AllReadyH.nil
  go_simp
  go_at_call 15
  refine (rLengths_calls _).mono ?_
  rintro e w9 ⟨v9, rfl, own9, hb9⟩
  have S9 : SS w w9 h7 (257 + i) B X j B' X' := SS.step (by assumption) hb9
  clear hb9
  obtain ⟨g9, c9, rfl, _, R9⟩ := rowsAt_own own9 (by decide)
  have Z9 : w9.cell? ⟨g9, i * 2 + 1, none⟩ = some (.int .i64 B) := by (rw [EBL.out]; exact (R9 i hL).2)
  refine hK.out _ _ S9 (fun hHeld => ?_)
  clear hK K
  try simp only [Act.put, List.setIfInBounds_toArray, List.set_cons_zero, List.set_cons_succ]
  refine' wpAnyH_take (i := 18) (oi := ⟨_, _, _, _, _, _⟩) (v := _) rfl (by kernel_rfl) (by kernel_rfl) (by kernel_rfl) (fun _ _ _ h => h) (Or.inl ⟨by rfl, ?hy18⟩) (by assumption) ?rest18
  case hy18 => (intro w hSw; (try dsimp only at hSw); go_simp; try with_reducible rfl)
  try simp only [Act.put, List.setIfInBounds_toArray, List.set_cons_zero, List.set_cons_succ]
  refine' wpAnyH_take (i := 19) (oi := ⟨_, _, _, _, _, _⟩) (v := _) rfl (by kernel_rfl) (by kernel_rfl) (by kernel_rfl) (fun _ _ _ h => h) (Or.inl ⟨by rfl, ?hy19⟩) (by assumption) ?rest19
  case hy19 => (intro w hSw; (try dsimp only at hSw); go_simp; try with_reducible rfl)
  try simp only [Act.put, List.setIfInBounds_toArray, List.set_cons_zero, List.set_cons_succ]
  refine wpAnyH_ready (rs := [20]) (by kernel_rfl) (by simp) ?_
  refine AllReadyH.cons (o := ⟨_, _, _, _, _, _⟩) rfl (fun K hK => ?_) AllReadyH.nil
  go_simp
  refine hK.out _ _ S9 (fun hHeld => ?_)
  clear hK K
  try simp only [Act.put, List.setIfInBounds_toArray, List.set_cons_zero, List.set_cons_succ]
  refine' wpAnyH_take (i := 21) (oi := ⟨_, _, _, _, _, _⟩) (v := _) rfl (by kernel_rfl) (by kernel_rfl) (by kernel_rfl) (fun _ _ _ h => h) (Or.inl ⟨by rfl, ?hy21⟩) (by assumption) ?rest21
  case hy21 => (intro w hSw; (try dsimp only at hSw); go_simp; try with_reducible rfl)
  try simp only [Act.put, List.setIfInBounds_toArray, List.set_cons_zero, List.set_cons_succ]
  refine' wpAnyH_take (i := 22) (oi := ⟨_, _, _, _, _, _⟩) (v := _) rfl (by kernel_rfl) (by kernel_rfl) (by kernel_rfl) (fun _ _ _ h => h) (Or.inl ⟨by rfl, ?hy22⟩) (by assumption) ?rest22
  case hy22 => (intro w hSw; (try dsimp only at hSw); go_simp; try with_reducible rfl)
  try simp only [Act.put, List.setIfInBounds_toArray, List.set_cons_zero, List.set_cons_succ]
  refine' wpAnyH_take (i := 23) (oi := ⟨_, _, _, _, _, _⟩) (v := _) rfl (by kernel_rfl) (by kernel_rfl) (by kernel_rfl) (fun _ _ _ h => h) (Or.inl ⟨by rfl, ?hy23⟩) (by assumption) ?rest23
  case hy23 => (intro w hSw; (try dsimp only at hSw); go_simp; try with_reducible rfl)
  try simp only [Act.put, List.setIfInBounds_toArray, List.set_cons_zero, List.set_cons_succ]
  refine' wpAnyH_take (i := 24) (oi := ⟨_, _, _, _, _, _⟩) (v := _) rfl (by kernel_rfl) (by kernel_rfl) (by kernel_rfl) (fun _ _ _ h => h) (Or.inl ⟨by rfl, ?hy24⟩) (by assumption) ?rest24
  case hy24 => (intro w hSw; (try dsimp only at hSw); go_simp; try with_reducible rfl)
  try simp only [Act.put, List.setIfInBounds_toArray, List.set_cons_zero, List.set_cons_succ]
  refine' wpAnyH_take (i := 25) (oi := ⟨_, _, _, _, _, _⟩) (v := _) rfl (by kernel_rfl) (by kernel_rfl) (by kernel_rfl) (fun _ _ _ h => h) (Or.inl ⟨by rfl, ?hy25⟩) (by assumption) ?rest25
  case hy25 => (intro w hSw; (try dsimp only at hSw); go_simp; try with_reducible rfl)
  try simp only [Act.put, List.setIfInBounds_toArray, List.set_cons_zero, List.set_cons_succ]
  refine' wpAnyH_take (i := 26) (oi := ⟨_, _, _, _, _, _⟩) (v := _) rfl (by kernel_rfl) (by kernel_rfl) (by kernel_rfl) (fun _ _ _ h => h) (Or.inl ⟨by rfl, ?hy26⟩) (by assumption) ?rest26
  case hy26 => (intro w hSw; (try dsimp only at hSw); go_simp; try with_reducible rfl)
  try simp only [Act.put, List.setIfInBounds_toArray, List.set_cons_zero, List.set_cons_succ]
  refine' wpAnyH_take (i := 27) (oi := ⟨_, _, _, _, _, _⟩) (v := _) rfl (by kernel_rfl) (by kernel_rfl) (by kernel_rfl) (fun _ _ _ h => h) (Or.inl ⟨by rfl, ?hy27⟩) (by assumption) ?rest27
  case hy27 => (intro w hSw; (try dsimp only at hSw); go_simp; try with_reducible rfl)
  try simp only [Act.put, List.setIfInBounds_toArray, List.set_cons_zero, List.set_cons_succ]
  refine' wpAnyH_take (i := 28) (oi := ⟨_, _, _, _, _, _⟩) (v := _) rfl (by kernel_rfl) (by kernel_rfl) (by kernel_rfl) (fun _ _ _ h => h) (Or.inl ⟨by rfl, ?hy28⟩) (by assumption) ?rest28
  case hy28 => (intro w hSw; (try dsimp only at hSw); go_simp; try with_reducible rfl)
  try simp only [Act.put, List.setIfInBounds_toArray, List.set_cons_zero, List.set_cons_succ]
  refine' wpAnyH_take (i := 29) (oi := ⟨_, _, _, _, _, _⟩) (v := _) rfl (by kernel_rfl) (by kernel_rfl) (by kernel_rfl) (fun _ _ _ h => h) (Or.inl ⟨by rfl, ?hy29⟩) (by assumption) ?rest29
  case hy29 => (intro w hSw; (try dsimp only at hSw); go_simp; try with_reducible rfl)
  try simp only [Act.put, List.setIfInBounds_toArray, List.set_cons_zero, List.set_cons_succ]
  refine' wpAnyH_take (i := 30) (oi := ⟨_, _, _, _, _, _⟩) (v := _) rfl (by kernel_rfl) (by kernel_rfl) (by kernel_rfl) (fun _ _ _ h => h) (Or.inl ⟨by rfl, ?hy30⟩) (by assumption) ?rest30
  case hy30 => (intro w hSw; (try dsimp only at hSw); go_simp; try with_reducible rfl)
  try simp only [Act.put, List.setIfInBounds_toArray, List.set_cons_zero, List.set_cons_succ]
  refine' wpAnyH_take (i := 31) (oi := ⟨_, _, _, _, _, _⟩) (v := _) rfl (by kernel_rfl) (by kernel_rfl) (by kernel_rfl) (fun _ _ _ h => h) (Or.inl ⟨by rfl, ?hy31⟩) (by assumption) ?rest31
  case hy31 => (intro w hSw; (try dsimp only at hSw); go_simp; try with_reducible rfl)
  try simp only [Act.put, List.setIfInBounds_toArray, List.set_cons_zero, List.set_cons_succ]
  refine' wpAnyH_take (i := 32) (oi := ⟨_, _, _, _, _, _⟩) (v := _) rfl (by kernel_rfl) (by kernel_rfl) (by kernel_rfl) (fun _ _ _ h => h) (Or.inl ⟨by rfl, ?hy32⟩) (by assumption) ?rest32
  case hy32 => (intro w hSw; (try dsimp only at hSw); go_simp; try with_reducible rfl)
  try simp only [Act.put, List.setIfInBounds_toArray, List.set_cons_zero, List.set_cons_succ]
  refine' wpAnyH_take (i := 33) (oi := ⟨_, _, _, _, _, _⟩) (v := _) rfl (by kernel_rfl) (by kernel_rfl) (by kernel_rfl) (fun _ _ _ h => h) (Or.inl ⟨by rfl, ?hy33⟩) (by assumption) ?rest33
  case hy33 => (intro w hSw; (try dsimp only at hSw); go_simp; try with_reducible rfl)
  try simp only [Act.put, List.setIfInBounds_toArray, List.set_cons_zero, List.set_cons_succ]
  refine' wpAnyH_take (i := 34) (oi := ⟨_, _, _, _, _, _⟩) (v := _) rfl (by kernel_rfl) (by kernel_rfl) (by kernel_rfl) (fun _ _ _ h => h) (Or.inl ⟨by rfl, ?hy34⟩) (by assumption) ?rest34
  case hy34 => (intro w hSw; (try dsimp only at hSw); go_simp; try with_reducible rfl)
  try simp only [Act.put, List.setIfInBounds_toArray, List.set_cons_zero, List.set_cons_succ]
  refine' wpAnyH_take (i := 35) (oi := ⟨_, _, _, _, _, _⟩) (v := _) rfl (by kernel_rfl) (by kernel_rfl) (by kernel_rfl) (fun _ _ _ h => h) (Or.inl ⟨by rfl, ?hy35⟩) (by assumption) ?rest35
  case hy35 => (intro w hSw; (try dsimp only at hSw); go_simp; try with_reducible rfl)
  try simp only [Act.put, List.setIfInBounds_toArray, List.set_cons_zero, List.set_cons_succ]
  refine' wpAnyH_take (i := 36) (oi := ⟨_, _, _, _, _, _⟩) (v := _) rfl (by kernel_rfl) (by kernel_rfl) (by kernel_rfl) (fun _ _ _ h => h) (Or.inl ⟨by rfl, ?hy36⟩) (by assumption) ?rest36
  case hy36 => (intro w hSw; (try dsimp only at hSw); go_simp; try with_reducible rfl)
  try simp only [Act.put, List.setIfInBounds_toArray, List.set_cons_zero, List.set_cons_succ]
  refine' wpAnyH_take (i := 37) (oi := ⟨_, _, _, _, _, _⟩) (v := _) rfl (by kernel_rfl) (by kernel_rfl) (by kernel_rfl) (fun _ _ _ h => h) (Or.inl ⟨by rfl, ?hy37⟩) (by assumption) ?rest37
  case hy37 => (intro w hSw; (try dsimp only at hSw); go_simp; try with_reducible rfl)
  try simp only [Act.put, List.setIfInBounds_toArray, List.set_cons_zero, List.set_cons_succ]
  refine' wpAnyH_take (i := 38) (oi := ⟨_, _, _, _, _, _⟩) (v := _) rfl (by kernel_rfl) (by kernel_rfl) (by kernel_rfl) (fun _ _ _ h => h) (Or.inl ⟨by rfl, ?hy38⟩) (by assumption) ?rest38
  case hy38 => (intro w hSw; (try dsimp only at hSw); go_simp; try with_reducible rfl)
  try simp only [Act.put, List.setIfInBounds_toArray, List.set_cons_zero, List.set_cons_succ]
  refine' wpAnyH_take (i := 40) (oi := ⟨_, _, _, _, _, _⟩) (v := _) rfl (by kernel_rfl) (by kernel_rfl) (by kernel_rfl) (fun _ _ _ h => h) (Or.inl ⟨by rfl, ?hy40⟩) (by assumption) ?rest40
  case hy40 => (intro w hSw; (try dsimp only at hSw); go_simp; try with_reducible rfl)
  try simp only [Act.put, List.setIfInBounds_toArray, List.set_cons_zero, List.set_cons_succ]
  refine wpAnyH_ready (rs := [39]) (by kernel_rfl) (by simp) ?_
  refine AllReadyH.cons (o := ⟨_, _, _, _, _, _⟩) rfl (fun K hK => ?_) AllReadyH.nil
  go_simp
  go_at_call 16
  refine (rDistances_calls _).mono ?_
  rintro e w10 ⟨v10, rfl, own10, hb10⟩
  have S10 : SS w w10 h7 (257 + i) B X j B' X' := SS.step (by assumption) hb10
  clear hb10
  obtain ⟨g10, c10, rfl, _, R10⟩ := rowsAt_own own10 (by decide)
  have Z10 : w10.cell? ⟨g10, j * 2 + 1, none⟩ = some (.int .i64 B') := by (rw [EBD.out]; exact (R10 j hD).2)
  refine hK.out _ _ S10 (fun hHeld => ?_)
  clear hK K
  try simp only [Act.put, List.setIfInBounds_toArray, List.set_cons_zero, List.set_cons_succ]
  refine' wpAnyH_take (i := 41) (oi := ⟨_, _, _, _, _, _⟩) (v := _) rfl (by kernel_rfl) (by kernel_rfl) (by kernel_rfl) (fun _ _ _ h => h) (Or.inl ⟨by rfl, ?hy41⟩) (by assumption) ?rest41
  case hy41 => (intro w hSw; (try dsimp only at hSw); go_simp; try with_reducible rfl)
  try simp only [Act.put, List.setIfInBounds_toArray, List.set_cons_zero, List.set_cons_succ]
  refine' wpAnyH_take (i := 42) (oi := ⟨_, _, _, _, _, _⟩) (v := _) rfl (by kernel_rfl) (by kernel_rfl) (by kernel_rfl) (fun _ _ _ h => h) (Or.inl ⟨by rfl, ?hy42⟩) (by assumption) ?rest42
  case hy42 => (intro w hSw; (try dsimp only at hSw); go_simp; try with_reducible rfl)
  try simp only [Act.put, List.setIfInBounds_toArray, List.set_cons_zero, List.set_cons_succ]
  refine wpAnyH_ready (rs := [43]) (by kernel_rfl) (by simp) ?_
  refine AllReadyH.cons (o := ⟨_, _, _, _, _, _⟩) rfl (fun K hK => ?_) AllReadyH.nil
  go_simp
  refine hK.out _ _ S10 (fun hHeld => ?_)
  clear hK K
  try simp only [Act.put, List.setIfInBounds_toArray, List.set_cons_zero, List.set_cons_succ]
  refine' wpAnyH_take (i := 44) (oi := ⟨_, _, _, _, _, _⟩) (v := _) rfl (by kernel_rfl) (by kernel_rfl) (by kernel_rfl) (fun _ _ _ h => h) (Or.inl ⟨by rfl, ?hy44⟩) (by assumption) ?rest44
  case hy44 => (intro w hSw; (try dsimp only at hSw); go_simp; try with_reducible rfl)
  try simp only [Act.put, List.setIfInBounds_toArray, List.set_cons_zero, List.set_cons_succ]
  refine' wpAnyH_take (i := 45) (oi := ⟨_, _, _, _, _, _⟩) (v := _) rfl (by kernel_rfl) (by kernel_rfl) (by kernel_rfl) (fun _ _ _ h => h) (Or.inl ⟨by rfl, ?hy45⟩) (by assumption) ?rest45
  case hy45 => (intro w hSw; (try dsimp only at hSw); go_simp; try with_reducible rfl)
  try simp only [Act.put, List.setIfInBounds_toArray, List.set_cons_zero, List.set_cons_succ]
  refine' wpAnyH_take (i := 46) (oi := ⟨_, _, _, _, _, _⟩) (v := _) rfl (by kernel_rfl) (by kernel_rfl) (by kernel_rfl) (fun _ _ _ h => h) (Or.inl ⟨by rfl, ?hy46⟩) (by assumption) ?rest46
  case hy46 => (intro w hSw; (try dsimp only at hSw); go_simp; try with_reducible rfl)
  try simp only [Act.put, List.setIfInBounds_toArray, List.set_cons_zero, List.set_cons_succ]
  refine' wpAnyH_take (i := 47) (oi := ⟨_, _, _, _, _, _⟩) (v := _) rfl (by kernel_rfl) (by kernel_rfl) (by kernel_rfl) (fun _ _ _ h => h) (Or.inl ⟨by rfl, ?hy47⟩) (by assumption) ?rest47
  case hy47 => (intro w hSw; (try dsimp only at hSw); go_simp; try with_reducible rfl)
  try simp only [Act.put, List.setIfInBounds_toArray, List.set_cons_zero, List.set_cons_succ]
  refine' wpAnyH_take (i := 48) (oi := ⟨_, _, _, _, _, _⟩) (v := _) rfl (by kernel_rfl) (by kernel_rfl) (by kernel_rfl) (fun _ _ _ h => h) (Or.inl ⟨by rfl, ?hy48⟩) (by assumption) ?rest48
  case hy48 => (intro w hSw; (try dsimp only at hSw); go_simp; try with_reducible rfl)
  try simp only [Act.put, List.setIfInBounds_toArray, List.set_cons_zero, List.set_cons_succ]
  refine' wpAnyH_take (i := 49) (oi := ⟨_, _, _, _, _, _⟩) (v := _) rfl (by kernel_rfl) (by kernel_rfl) (by kernel_rfl) (fun _ _ _ h => h) (Or.inl ⟨by rfl, ?hy49⟩) (by assumption) ?rest49
  case hy49 => (intro w hSw; (try dsimp only at hSw); go_simp; try with_reducible rfl)
  try simp only [Act.put, List.setIfInBounds_toArray, List.set_cons_zero, List.set_cons_succ]
  refine' wpAnyH_take (i := 50) (oi := ⟨_, _, _, _, _, _⟩) (v := _) rfl (by kernel_rfl) (by kernel_rfl) (by kernel_rfl) (fun _ _ _ h => h) (Or.inl ⟨by rfl, ?hy50⟩) (by assumption) ?rest50
  case hy50 => (intro w hSw; (try dsimp only at hSw); go_simp; try with_reducible rfl)
  try simp only [Act.put, List.setIfInBounds_toArray, List.set_cons_zero, List.set_cons_succ]
  refine' wpAnyH_take (i := 51) (oi := ⟨_, _, _, _, _, _⟩) (v := _) rfl (by kernel_rfl) (by kernel_rfl) (by kernel_rfl) (fun _ _ _ h => h) (Or.inl ⟨by rfl, ?hy51⟩) (by assumption) ?rest51
  case hy51 => (intro w hSw; (try dsimp only at hSw); go_simp; try with_reducible rfl)
  try simp only [Act.put, List.setIfInBounds_toArray, List.set_cons_zero, List.set_cons_succ]
  refine' wpAnyH_take (i := 52) (oi := ⟨_, _, _, _, _, _⟩) (v := _) rfl (by kernel_rfl) (by kernel_rfl) (by kernel_rfl) (fun _ _ _ h => h) (Or.inl ⟨by rfl, ?hy52⟩) (by assumption) ?rest52
  case hy52 => (intro w hSw; (try dsimp only at hSw); go_simp; try with_reducible rfl)
  try simp only [Act.put, List.setIfInBounds_toArray, List.set_cons_zero, List.set_cons_succ]
  refine' wpAnyH_take (i := 53) (oi := ⟨_, _, _, _, _, _⟩) (v := _) rfl (by kernel_rfl) (by kernel_rfl) (by kernel_rfl) (fun _ _ _ h => h) (Or.inl ⟨by rfl, ?hy53⟩) (by assumption) ?rest53
  case hy53 => (intro w hSw; (try dsimp only at hSw); go_simp; try with_reducible rfl)
  try simp only [Act.put, List.setIfInBounds_toArray, List.set_cons_zero, List.set_cons_succ]
  refine wpAnyH_done (by kernel_rfl) ?_ _
  refine NoPanic.normal ?_
  first | done | go_wp2
  go_ret
  exact ⟨rfl, S10.2.2.2.2.2.2⟩
end Go.Proofs.YtempgkglhgelkaaDoor

