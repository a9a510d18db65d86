/-
  Texts joined into one file: RRight20, Spoken.
-/
import Derived.Test.YtdbkbeojedndbaaJAw202
import Derived.Test.YtdbkbeojedndbaaJHeadBack1
import Derived.Test.YtdbkbeojedndbaaJHeadG7
import Derived.Test.YtdbkbeojedndbaaJHeadBack2
import Derived.Test.YtdbkbeojedndbaaJAw201
/-
  The reference's word on what stands ahead of a change. Printed by gen_rright.py.
-/
namespace Go.Proofs.Ytdbkbeojedndbaa
open Go.RowKit

theorem rright_of {a ms : ByteArray} {sq st tm : Int} {D : List (List Int)} (ha : 1 ≤ a.size ∧ a.size ≤ 16) (h1 : 1 ≤ sq) (h2 : sq ≤ 9007199254740991) (h3 : 1 ≤ st) (h4 : st ≤ 9007199254740991) (hm : ms.size ≤ 1000) (hu : ¬ uWhere (nums ms) < ms.size) (hn : D.length ≤ 16) (hD : Hashes D)
    (hl : ∀ j, j + 1 < D.length → dep D j < dep D (j + 1)) : ∃ q s : Nat, sq = q ∧ st = s ∧ HdRight ⟨a, q, s, tm, ms, D⟩ := by
  obtain ⟨q, rfl⟩ : ∃ q : Nat, sq = q := ⟨sq.toNat, by omega⟩
  obtain ⟨s, rfl⟩ : ∃ q : Nat, st = q := ⟨st.toNat, by omega⟩
  refine ⟨q, s, rfl, rfl, ⟨ha, ⟨by show 1 ≤ q; omega, by show q ≤ mostN; unfold mostN; omega⟩, ⟨by show 1 ≤ s; omega, by show s ≤ mostN; unfold mostN; omega⟩, hm, ?_, hn, ?_⟩⟩
  · show uWhere (nums ms) = ms.size
    have := uWhere_le _ (nums ms) (Nat.le_refl _)
    rw [nums_length] at this
    omega
  · exact hchain_of D [] (fun h hh => (hD h hh).1) (fun i _ hi => by simp only [List.nil_append] at hi ⊢; exact hl i hi)
theorem DepsAt.cell9 {w : World} {b o n c : Nat} {D : List (List Int)} (h : DepsAt w (some ⟨b, o, none⟩) n c D) (i j : Nat) (hi : i < n) (hj : j < 32) : w.cell? ⟨b, o + i * 32 + j, none⟩ = some (.int .u8 (rd (dep D i) j)) := by
  obtain ⟨b', o', e, hc⟩ := h.at' (by omega)
  cases e
  exact hc i j hi hj
set_option maxHeartbeats 4000000 in
set_option maxRecDepth 100000 in
theorem rRight20_calls (a : ByteArray) (sq st tm : Int) (ms : ByteArray) (A : Option Addr) (n c : Nat) (D : List (List Int)) (ov : Value) (w : World) (hov : ∃ O on oc, ov = .slice O on oc) (ha : a.size ≤ 1000) (hms : ms.size ≤ 5000) (hD : DepsAt w A n c D) (hn : n ≤ 1000) :
    Calls Try.prog 15 #[.agg (chgC2 a sq st tm ms (.slice A n c) ov)] w fun e w' => (e = .returned (.bool false) ∨ e = .returned (.bool true) ∧ ∃ q s : Nat, sq = q ∧ st = s ∧ HdRight ⟨a, q, s, tm, ms, D⟩) ∧ Below w.heap.size w w' := by
  obtain ⟨O, on, oc, rfl⟩ := hov
  have HD := Lib.hid hD
  clear hD
  go_enter Try.func15, Try.ntmps15
  obtain ⟨bc, hbc⟩ : ∃ g, g = w.heap.size := ⟨_, rfl⟩
  go_upto_region 1 with fail
  obtain ⟨W, hW⟩ : ∃ X, X = w.alloc (.cells #[.string a, .int .i64 sq, .int .i64 st, .int .i64 tm, .string ms, .slice A n c, .slice O on oc] 27) := ⟨_, rfl⟩
  rw [← hW, ← hbc]
  have HB0 : Hid (Below w.heap.size w W) := Lib.hid (by rw [hW]; exact (Below.refl _ _).alloc (Nat.le_refl _) _)
  have hrow : W.heap[bc]? = some (.cells (chgC2 a sq st tm ms (.slice A n c) (.slice O on oc)) 27 (0, 0)) := by rw [hW, hbc]; exact heap_alloc_new w _
  clear hW hbc
  have c0 : W.cell? ⟨bc, 0, none⟩ = some (.string a) := cell_of_row W bc 0 _ _ (0, 0) hrow
  have c1 : W.cell? ⟨bc, 1, none⟩ = some (.int .i64 sq) := cell_of_row W bc 1 _ _ (0, 0) hrow
  have c2 : W.cell? ⟨bc, 2, none⟩ = some (.int .i64 st) := cell_of_row W bc 2 _ _ (0, 0) hrow
  have c4 : W.cell? ⟨bc, 4, none⟩ = some (.string ms) := cell_of_row W bc 4 _ _ (0, 0) hrow
  have c5 : W.cell? ⟨bc, 5, none⟩ = some (.slice A n c) := cell_of_row W bc 5 _ _ (0, 0) hrow
  clear hrow
  go_wp2_with fail
  refine (Actor_calls a W (by omega)).mono ?_
  rintro e w1 ⟨he, rfl⟩
  obtain ⟨W, hW⟩ : ∃ X, X = w1 := ⟨_, rfl⟩
  subst hW
  rcases he with rfl | ⟨rfl, hac⟩
  · go_wp2_with fail
    go_ret
    exact ⟨.inl rfl, HB0.out⟩
  have Hac := Lib.hid hac
  clear hac
  by_cases h1 : sq < 1
  · go_wp2_with fail
    go_ret
    exact ⟨.inl rfl, HB0.out⟩
  by_cases h2 : 9007199254740991 < sq
  · go_wp2_with fail
    go_ret
    exact ⟨.inl rfl, HB0.out⟩
  by_cases h3 : st < 1
  · go_wp2_with fail
    go_ret
    exact ⟨.inl rfl, HB0.out⟩
  by_cases h4 : 9007199254740991 < st
  · go_wp2_with fail
    go_ret
    exact ⟨.inl rfl, HB0.out⟩
  by_cases hm : 1000 < ms.size
  · have hmi : (1000 : Int) < (ms.size : Int) := by omega
    go_upto_region 3 with fail
    refine wp_region_noPanic ?_
    refine wp_region_held_drew (S := fun W' => Below W.heap.size W W' ∧ W'.cell? ⟨bc, 4, none⟩ = some (.string ms) ∧ W'.cell? ⟨bc, 5, none⟩ = some (.slice A n c)) (by kernel_rfl) (⟨(Below.refl _ _).drew, c4, c5⟩) (fun hHeld => ?_)
    refine' wpAnyH_take (i := 0) (oi := ⟨_, _, _, _, _, _⟩) (v := _) rfl (by kernel_rfl) (by kernel_rfl) (by kernel_rfl) (fun _ _ _ h => h) (Or.inl ⟨by rfl, ?hya0⟩) (by assumption) ?resta0
    case hya0 => (intro w hSw; (try dsimp only at hSw); go_simp; try with_reducible rfl)
    try simp only [Act.put, List.setIfInBounds_toArray, List.set_cons_zero, List.set_cons_succ]
    refine' wpAnyH_take (i := 1) (oi := ⟨_, _, _, _, _, _⟩) (v := _) rfl (by kernel_rfl) (by kernel_rfl) (by kernel_rfl) (fun _ _ _ h => h) (Or.inl ⟨by rfl, ?hya1⟩) (by assumption) ?resta1
    case hya1 => (intro w hSw; (try dsimp only at hSw); go_simp; try with_reducible rfl)
    try simp only [Act.put, List.setIfInBounds_toArray, List.set_cons_zero, List.set_cons_succ]
    refine' wpAnyH_take (i := 2) (oi := ⟨_, _, _, _, _, _⟩) (v := _) rfl (by kernel_rfl) (by kernel_rfl) (by kernel_rfl) (fun _ _ _ h => h) (Or.inl ⟨by rfl, ?hya2⟩) (by assumption) ?resta2
    case hya2 => (intro w hSw; (try dsimp only at hSw); go_simp; try with_reducible rfl)
    try simp only [Act.put, List.setIfInBounds_toArray, List.set_cons_zero, List.set_cons_succ]
    refine' wpAnyH_take (i := 3) (oi := ⟨_, _, _, _, _, _⟩) (v := _) rfl (by kernel_rfl) (by kernel_rfl) (by kernel_rfl) (fun _ _ _ h => h) (Or.inl ⟨by rfl, ?hya3⟩) (by assumption) ?resta3
    case hya3 => (intro w hSw; (try dsimp only at hSw); go_simp; try with_reducible rfl)
    try simp only [Act.put, List.setIfInBounds_toArray, List.set_cons_zero, List.set_cons_succ]
    refine' wpAnyH_take (i := 4) (oi := ⟨_, _, _, _, _, _⟩) (v := _) rfl (by kernel_rfl) (by kernel_rfl) (by kernel_rfl) (fun _ _ _ h => h) (Or.inl ⟨by rfl, ?hya4⟩) (by assumption) ?resta4
    case hya4 => (intro w hSw; (try dsimp only at hSw); go_simp; try with_reducible rfl)
    try simp only [Act.put, List.setIfInBounds_toArray, List.set_cons_zero, List.set_cons_succ]
    refine' wpAnyH_take (i := 5) (oi := ⟨_, _, _, _, _, _⟩) (v := undef) rfl (by kernel_rfl) (by kernel_rfl) (by kernel_rfl) (fun _ _ _ h => h) (Or.inr ⟨by rfl, rfl⟩) (by assumption) ?_
    try simp only [Act.put, List.setIfInBounds_toArray, List.set_cons_zero, List.set_cons_succ]
    refine' wpAnyH_take (i := 6) (oi := ⟨_, _, _, _, _, _⟩) (v := undef) rfl (by kernel_rfl) (by kernel_rfl) (by kernel_rfl) (fun _ _ _ h => h) (Or.inr ⟨by rfl, rfl⟩) (by assumption) ?_
    try simp only [Act.put, List.setIfInBounds_toArray, List.set_cons_zero, List.set_cons_succ]
    refine' wpAnyH_take (i := 7) (oi := ⟨_, _, _, _, _, _⟩) (v := undef) rfl (by kernel_rfl) (by kernel_rfl) (by kernel_rfl) (fun _ _ _ h => h) (Or.inr ⟨by rfl, rfl⟩) (by assumption) ?_
    try simp only [Act.put, List.setIfInBounds_toArray, List.set_cons_zero, List.set_cons_succ]
    refine' wpAnyH_take (i := 8) (oi := ⟨_, _, _, _, _, _⟩) (v := undef) rfl (by kernel_rfl) (by kernel_rfl) (by kernel_rfl) (fun _ _ _ h => h) (Or.inr ⟨by rfl, rfl⟩) (by assumption) ?_
    try simp only [Act.put, List.setIfInBounds_toArray, List.set_cons_zero, List.set_cons_succ]
    refine' wpAnyH_take (i := 9) (oi := ⟨_, _, _, _, _, _⟩) (v := undef) rfl (by kernel_rfl) (by kernel_rfl) (by kernel_rfl) (fun _ _ _ h => h) (Or.inr ⟨by rfl, rfl⟩) (by assumption) ?_
    try simp only [Act.put, List.setIfInBounds_toArray, List.set_cons_zero, List.set_cons_succ]
    refine' wpAnyH_take (i := 10) (oi := ⟨_, _, _, _, _, _⟩) (v := undef) rfl (by kernel_rfl) (by kernel_rfl) (by kernel_rfl) (fun _ _ _ h => h) (Or.inr ⟨by rfl, rfl⟩) (by assumption) ?_
    try simp only [Act.put, List.setIfInBounds_toArray, List.set_cons_zero, List.set_cons_succ]
    refine' wpAnyH_take (i := 11) (oi := ⟨_, _, _, _, _, _⟩) (v := undef) rfl (by kernel_rfl) (by kernel_rfl) (by kernel_rfl) (fun _ _ _ h => h) (Or.inr ⟨by rfl, rfl⟩) (by assumption) ?_
    try simp only [Act.put, List.setIfInBounds_toArray, List.set_cons_zero, List.set_cons_succ]
    refine' wpAnyH_take (i := 12) (oi := ⟨_, _, _, _, _, _⟩) (v := _) rfl (by kernel_rfl) (by kernel_rfl) (by kernel_rfl) (fun _ _ _ h => h) (Or.inl ⟨by rfl, ?hya12⟩) (by assumption) ?resta12
    case hya12 => (intro w hSw; (try dsimp only at hSw); go_simp; try with_reducible rfl)
    try simp only [Act.put, List.setIfInBounds_toArray, List.set_cons_zero, List.set_cons_succ]
    refine' wpAnyH_take (i := 13) (oi := ⟨_, _, _, _, _, _⟩) (v := _) rfl (by kernel_rfl) (by kernel_rfl) (by kernel_rfl) (fun _ _ _ h => h) (Or.inl ⟨by rfl, ?hya13⟩) (by assumption) ?resta13
    case hya13 => (intro w hSw; (try dsimp only at hSw); go_simp; try with_reducible rfl)
    try simp only [Act.put, List.setIfInBounds_toArray, List.set_cons_zero, List.set_cons_succ]
    refine' wpAnyH_take (i := 14) (oi := ⟨_, _, _, _, _, _⟩) (v := undef) rfl (by kernel_rfl) (by kernel_rfl) (by kernel_rfl) (fun _ _ _ h => h) (Or.inr ⟨by rfl, rfl⟩) (by assumption) ?_
    try simp only [Act.put, List.setIfInBounds_toArray, List.set_cons_zero, List.set_cons_succ]
    refine' wpAnyH_take (i := 15) (oi := ⟨_, _, _, _, _, _⟩) (v := undef) rfl (by kernel_rfl) (by kernel_rfl) (by kernel_rfl) (fun _ _ _ h => h) (Or.inr ⟨by rfl, rfl⟩) (by assumption) ?_
    try simp only [Act.put, List.setIfInBounds_toArray, List.set_cons_zero, List.set_cons_succ]
    refine' wpAnyH_take (i := 16) (oi := ⟨_, _, _, _, _, _⟩) (v := undef) rfl (by kernel_rfl) (by kernel_rfl) (by kernel_rfl) (fun _ _ _ h => h) (Or.inr ⟨by rfl, rfl⟩) (by assumption) ?_
    try simp only [Act.put, List.setIfInBounds_toArray, List.set_cons_zero, List.set_cons_succ]
    refine' wpAnyH_take (i := 17) (oi := ⟨_, _, _, _, _, _⟩) (v := undef) rfl (by kernel_rfl) (by kernel_rfl) (by kernel_rfl) (fun _ _ _ h => h) (Or.inr ⟨by rfl, rfl⟩) (by assumption) ?_
    try simp only [Act.put, List.setIfInBounds_toArray, List.set_cons_zero, List.set_cons_succ]
    refine' wpAnyH_take (i := 18) (oi := ⟨_, _, _, _, _, _⟩) (v := _) rfl (by kernel_rfl) (by kernel_rfl) (by kernel_rfl) (fun _ _ _ h => h) (Or.inl ⟨by rfl, ?hya18⟩) (by assumption) ?resta18
    case hya18 => (intro w hSw; (try dsimp only at hSw); go_simp; try with_reducible rfl)
    try simp only [Act.put, List.setIfInBounds_toArray, List.set_cons_zero, List.set_cons_succ]
    refine wpAnyH_done (by kernel_rfl) ?_ _
    refine NoPanic.normal ?_
    have HB3 := Lib.hid hHeld.1
    clear hHeld
    go_wp2_with fail
    go_ret
    exact ⟨.inl rfl, HB0.out.trans (HB3.out.mono HB0.out.size)⟩
  have hmi : decide ((1000 : Int) < (ms.size : Int)) = false := decide_eq_false (by omega)
  by_cases hu : uWhere (nums ms) < ms.size
  · obtain ⟨u, hu9⟩ : ∃ u, u = uWhere (nums ms) := ⟨_, rfl⟩
    rw [← hu9] at hu
    have Hu9 := Lib.hid hu9
    clear hu9
    have hui : (u : Int) < (ms.size : Int) := by omega
    go_upto_region 3 with fail
    refine wp_region_noPanic ?_
    refine wp_region_held_drew (S := fun W' => Below W.heap.size W W' ∧ W'.cell? ⟨bc, 4, none⟩ = some (.string ms) ∧ W'.cell? ⟨bc, 5, none⟩ = some (.slice A n c)) (by kernel_rfl) (⟨(Below.refl _ _).drew, c4, c5⟩) (fun hHeld => ?_)
    refine' wpAnyH_take (i := 0) (oi := ⟨_, _, _, _, _, _⟩) (v := _) rfl (by kernel_rfl) (by kernel_rfl) (by kernel_rfl) (fun _ _ _ h => h) (Or.inl ⟨by rfl, ?hyb0⟩) (by assumption) ?restb0
    case hyb0 => (intro w hSw; (try dsimp only at hSw); go_simp; try with_reducible rfl)
    try simp only [Act.put, List.setIfInBounds_toArray, List.set_cons_zero, List.set_cons_succ]
    refine' wpAnyH_take (i := 1) (oi := ⟨_, _, _, _, _, _⟩) (v := _) rfl (by kernel_rfl) (by kernel_rfl) (by kernel_rfl) (fun _ _ _ h => h) (Or.inl ⟨by rfl, ?hyb1⟩) (by assumption) ?restb1
    case hyb1 => (intro w hSw; (try dsimp only at hSw); go_simp; try with_reducible rfl)
    try simp only [Act.put, List.setIfInBounds_toArray, List.set_cons_zero, List.set_cons_succ]
    refine' wpAnyH_take (i := 2) (oi := ⟨_, _, _, _, _, _⟩) (v := _) rfl (by kernel_rfl) (by kernel_rfl) (by kernel_rfl) (fun _ _ _ h => h) (Or.inl ⟨by rfl, ?hyb2⟩) (by assumption) ?restb2
    case hyb2 => (intro w hSw; (try dsimp only at hSw); go_simp; try with_reducible rfl)
    try simp only [Act.put, List.setIfInBounds_toArray, List.set_cons_zero, List.set_cons_succ]
    refine' wpAnyH_take (i := 3) (oi := ⟨_, _, _, _, _, _⟩) (v := _) rfl (by kernel_rfl) (by kernel_rfl) (by kernel_rfl) (fun _ _ _ h => h) (Or.inl ⟨by rfl, ?hyb3⟩) (by assumption) ?restb3
    case hyb3 => (intro w hSw; (try dsimp only at hSw); go_simp; try with_reducible rfl)
    try simp only [Act.put, List.setIfInBounds_toArray, List.set_cons_zero, List.set_cons_succ]
    refine' wpAnyH_take (i := 4) (oi := ⟨_, _, _, _, _, _⟩) (v := _) rfl (by kernel_rfl) (by kernel_rfl) (by kernel_rfl) (fun _ _ _ h => h) (Or.inl ⟨by rfl, ?hyb4⟩) (by assumption) ?restb4
    case hyb4 => (intro w hSw; (try dsimp only at hSw); go_simp; try with_reducible rfl)
    try simp only [Act.put, List.setIfInBounds_toArray, List.set_cons_zero, List.set_cons_succ]
    refine' wpAnyH_take (i := 5) (oi := ⟨_, _, _, _, _, _⟩) (v := _) rfl (by kernel_rfl) (by kernel_rfl) (by kernel_rfl) (fun _ _ _ h => h) (Or.inl ⟨by rfl, ?hyb5⟩) (by assumption) ?restb5
    case hyb5 => (intro w hSw; (try dsimp only at hSw); go_simp; try with_reducible rfl)
    try simp only [Act.put, List.setIfInBounds_toArray, List.set_cons_zero, List.set_cons_succ]
    refine' wpAnyH_take (i := 6) (oi := ⟨_, _, _, _, _, _⟩) (v := _) rfl (by kernel_rfl) (by kernel_rfl) (by kernel_rfl) (fun _ _ _ h => h) (Or.inl ⟨by rfl, ?hyb6⟩) (by assumption) ?restb6
    case hyb6 => (intro w hSw; (try dsimp only at hSw); go_simp; try with_reducible rfl)
    try simp only [Act.put, List.setIfInBounds_toArray, List.set_cons_zero, List.set_cons_succ]
    refine' wpAnyH_take (i := 8) (oi := ⟨_, _, _, _, _, _⟩) (v := _) rfl (by kernel_rfl) (by kernel_rfl) (by kernel_rfl) (fun _ _ _ h => h) (Or.inl ⟨by rfl, ?hyb8⟩) (by assumption) ?restb8
    case hyb8 => (intro w hSw; (try dsimp only at hSw); go_simp; try with_reducible rfl)
    try simp only [Act.put, List.setIfInBounds_toArray, List.set_cons_zero, List.set_cons_succ]
    refine' wpAnyH_take (i := 9) (oi := ⟨_, _, _, _, _, _⟩) (v := _) rfl (by kernel_rfl) (by kernel_rfl) (by kernel_rfl) (fun _ _ _ h => h) (Or.inl ⟨by rfl, ?hyb9⟩) (by assumption) ?restb9
    case hyb9 => (intro w hSw; (try dsimp only at hSw); go_simp; try with_reducible rfl)
    try simp only [Act.put, List.setIfInBounds_toArray, List.set_cons_zero, List.set_cons_succ]
    refine' wpAnyH_take (i := 10) (oi := ⟨_, _, _, _, _, _⟩) (v := _) rfl (by kernel_rfl) (by kernel_rfl) (by kernel_rfl) (fun _ _ _ h => h) (Or.inl ⟨by rfl, ?hyb10⟩) (by assumption) ?restb10
    case hyb10 => (intro w hSw; (try dsimp only at hSw); go_simp; try with_reducible rfl)
    try simp only [Act.put, List.setIfInBounds_toArray, List.set_cons_zero, List.set_cons_succ]
    refine wpAnyH_ready (rs := [7]) (by kernel_rfl) (by simp) ?_
    refine AllReadyH.cons (o := ⟨_, _, _, _, _, _⟩) rfl (fun K hK => ?_) AllReadyH.nil
    go_simp
    go_at_call 38
    refine (chWhere_calls ms _ (by omega)).mono ?_
    rintro e2 w2 ⟨rfl, hb2⟩
    rw [← Hu9.out]
    have hb2 : Below W.heap.size W w2 := Below.trans (Below.refl _ _).drew hb2
    have HB2 := Lib.hid hb2
    clear hb2
    refine hK.out _ _ (⟨HB2.out, kept_cell HB2.out c4, kept_cell HB2.out c5⟩) (fun hHeldN => ?_)
    clear hK K hHeld
    have hHeld := hHeldN
    clear hHeldN
    try simp only [Act.put, List.setIfInBounds_toArray, List.set_cons_zero, List.set_cons_succ]
    refine' wpAnyH_take (i := 11) (oi := ⟨_, _, _, _, _, _⟩) (v := _) rfl (by kernel_rfl) (by kernel_rfl) (by kernel_rfl) (fun _ _ _ h => h) (Or.inl ⟨by rfl, ?hybb11⟩) (by assumption) ?restbb11
    case hybb11 => (intro w hSw; (try dsimp only at hSw); go_simp; try with_reducible rfl)
    try simp only [Act.put, List.setIfInBounds_toArray, List.set_cons_zero, List.set_cons_succ]
    refine' wpAnyH_take (i := 12) (oi := ⟨_, _, _, _, _, _⟩) (v := _) rfl (by kernel_rfl) (by kernel_rfl) (by kernel_rfl) (fun _ _ _ h => h) (Or.inl ⟨by rfl, ?hybb12⟩) (by assumption) ?restbb12
    case hybb12 => (intro w hSw; (try dsimp only at hSw); go_simp; try with_reducible rfl)
    try simp only [Act.put, List.setIfInBounds_toArray, List.set_cons_zero, List.set_cons_succ]
    refine' wpAnyH_take (i := 13) (oi := ⟨_, _, _, _, _, _⟩) (v := _) rfl (by kernel_rfl) (by kernel_rfl) (by kernel_rfl) (fun _ _ _ h => h) (Or.inl ⟨by rfl, ?hybb13⟩) (by assumption) ?restbb13
    case hybb13 => (intro w hSw; (try dsimp only at hSw); go_simp; try with_reducible rfl)
    try simp only [Act.put, List.setIfInBounds_toArray, List.set_cons_zero, List.set_cons_succ]
    refine' wpAnyH_take (i := 14) (oi := ⟨_, _, _, _, _, _⟩) (v := undef) rfl (by kernel_rfl) (by kernel_rfl) (by kernel_rfl) (fun _ _ _ h => h) (Or.inr ⟨by rfl, rfl⟩) (by assumption) ?_
    try simp only [Act.put, List.setIfInBounds_toArray, List.set_cons_zero, List.set_cons_succ]
    refine' wpAnyH_take (i := 15) (oi := ⟨_, _, _, _, _, _⟩) (v := undef) rfl (by kernel_rfl) (by kernel_rfl) (by kernel_rfl) (fun _ _ _ h => h) (Or.inr ⟨by rfl, rfl⟩) (by assumption) ?_
    try simp only [Act.put, List.setIfInBounds_toArray, List.set_cons_zero, List.set_cons_succ]
    refine' wpAnyH_take (i := 16) (oi := ⟨_, _, _, _, _, _⟩) (v := undef) rfl (by kernel_rfl) (by kernel_rfl) (by kernel_rfl) (fun _ _ _ h => h) (Or.inr ⟨by rfl, rfl⟩) (by assumption) ?_
    try simp only [Act.put, List.setIfInBounds_toArray, List.set_cons_zero, List.set_cons_succ]
    refine' wpAnyH_take (i := 17) (oi := ⟨_, _, _, _, _, _⟩) (v := undef) rfl (by kernel_rfl) (by kernel_rfl) (by kernel_rfl) (fun _ _ _ h => h) (Or.inr ⟨by rfl, rfl⟩) (by assumption) ?_
    try simp only [Act.put, List.setIfInBounds_toArray, List.set_cons_zero, List.set_cons_succ]
    refine' wpAnyH_take (i := 18) (oi := ⟨_, _, _, _, _, _⟩) (v := _) rfl (by kernel_rfl) (by kernel_rfl) (by kernel_rfl) (fun _ _ _ h => h) (Or.inl ⟨by rfl, ?hybb18⟩) (by assumption) ?restbb18
    case hybb18 => (intro w hSw; (try dsimp only at hSw); go_simp; try with_reducible rfl)
    try simp only [Act.put, List.setIfInBounds_toArray, List.set_cons_zero, List.set_cons_succ]
    refine wpAnyH_done (by kernel_rfl) ?_ _
    refine NoPanic.normal ?_
    have HB3 := Lib.hid hHeld.1
    clear hHeld
    go_wp2_with fail
    go_ret
    exact ⟨.inl rfl, HB0.out.trans (HB3.out.mono HB0.out.size)⟩
  by_cases hn16 : 16 < n
  · obtain ⟨u, hu9⟩ : ∃ u, u = uWhere (nums ms) := ⟨_, rfl⟩
    rw [← hu9] at hu
    have Hu9 := Lib.hid hu9
    clear hu9
    have hui : decide ((u : Int) < (ms.size : Int)) = false := decide_eq_false (by omega)
    have hni : (16 : Int) < (n : Int) := by omega
    go_upto_region 3 with fail
    refine wp_region_noPanic ?_
    refine wp_region_held_drew (S := fun W' => Below W.heap.size W W' ∧ W'.cell? ⟨bc, 4, none⟩ = some (.string ms) ∧ W'.cell? ⟨bc, 5, none⟩ = some (.slice A n c)) (by kernel_rfl) (⟨(Below.refl _ _).drew, c4, c5⟩) (fun hHeld => ?_)
    refine' wpAnyH_take (i := 0) (oi := ⟨_, _, _, _, _, _⟩) (v := _) rfl (by kernel_rfl) (by kernel_rfl) (by kernel_rfl) (fun _ _ _ h => h) (Or.inl ⟨by rfl, ?hyc0⟩) (by assumption) ?restc0
    case hyc0 => (intro w hSw; (try dsimp only at hSw); go_simp; try with_reducible rfl)
    try simp only [Act.put, List.setIfInBounds_toArray, List.set_cons_zero, List.set_cons_succ]
    refine' wpAnyH_take (i := 1) (oi := ⟨_, _, _, _, _, _⟩) (v := _) rfl (by kernel_rfl) (by kernel_rfl) (by kernel_rfl) (fun _ _ _ h => h) (Or.inl ⟨by rfl, ?hyc1⟩) (by assumption) ?restc1
    case hyc1 => (intro w hSw; (try dsimp only at hSw); go_simp; try with_reducible rfl)
    try simp only [Act.put, List.setIfInBounds_toArray, List.set_cons_zero, List.set_cons_succ]
    refine' wpAnyH_take (i := 2) (oi := ⟨_, _, _, _, _, _⟩) (v := _) rfl (by kernel_rfl) (by kernel_rfl) (by kernel_rfl) (fun _ _ _ h => h) (Or.inl ⟨by rfl, ?hyc2⟩) (by assumption) ?restc2
    case hyc2 => (intro w hSw; (try dsimp only at hSw); go_simp; try with_reducible rfl)
    try simp only [Act.put, List.setIfInBounds_toArray, List.set_cons_zero, List.set_cons_succ]
    refine' wpAnyH_take (i := 3) (oi := ⟨_, _, _, _, _, _⟩) (v := _) rfl (by kernel_rfl) (by kernel_rfl) (by kernel_rfl) (fun _ _ _ h => h) (Or.inl ⟨by rfl, ?hyc3⟩) (by assumption) ?restc3
    case hyc3 => (intro w hSw; (try dsimp only at hSw); go_simp; try with_reducible rfl)
    try simp only [Act.put, List.setIfInBounds_toArray, List.set_cons_zero, List.set_cons_succ]
    refine' wpAnyH_take (i := 4) (oi := ⟨_, _, _, _, _, _⟩) (v := _) rfl (by kernel_rfl) (by kernel_rfl) (by kernel_rfl) (fun _ _ _ h => h) (Or.inl ⟨by rfl, ?hyc4⟩) (by assumption) ?restc4
    case hyc4 => (intro w hSw; (try dsimp only at hSw); go_simp; try with_reducible rfl)
    try simp only [Act.put, List.setIfInBounds_toArray, List.set_cons_zero, List.set_cons_succ]
    refine' wpAnyH_take (i := 5) (oi := ⟨_, _, _, _, _, _⟩) (v := _) rfl (by kernel_rfl) (by kernel_rfl) (by kernel_rfl) (fun _ _ _ h => h) (Or.inl ⟨by rfl, ?hyc5⟩) (by assumption) ?restc5
    case hyc5 => (intro w hSw; (try dsimp only at hSw); go_simp; try with_reducible rfl)
    try simp only [Act.put, List.setIfInBounds_toArray, List.set_cons_zero, List.set_cons_succ]
    refine' wpAnyH_take (i := 6) (oi := ⟨_, _, _, _, _, _⟩) (v := _) rfl (by kernel_rfl) (by kernel_rfl) (by kernel_rfl) (fun _ _ _ h => h) (Or.inl ⟨by rfl, ?hyc6⟩) (by assumption) ?restc6
    case hyc6 => (intro w hSw; (try dsimp only at hSw); go_simp; try with_reducible rfl)
    try simp only [Act.put, List.setIfInBounds_toArray, List.set_cons_zero, List.set_cons_succ]
    refine' wpAnyH_take (i := 8) (oi := ⟨_, _, _, _, _, _⟩) (v := _) rfl (by kernel_rfl) (by kernel_rfl) (by kernel_rfl) (fun _ _ _ h => h) (Or.inl ⟨by rfl, ?hyc8⟩) (by assumption) ?restc8
    case hyc8 => (intro w hSw; (try dsimp only at hSw); go_simp; try with_reducible rfl)
    try simp only [Act.put, List.setIfInBounds_toArray, List.set_cons_zero, List.set_cons_succ]
    refine' wpAnyH_take (i := 9) (oi := ⟨_, _, _, _, _, _⟩) (v := _) rfl (by kernel_rfl) (by kernel_rfl) (by kernel_rfl) (fun _ _ _ h => h) (Or.inl ⟨by rfl, ?hyc9⟩) (by assumption) ?restc9
    case hyc9 => (intro w hSw; (try dsimp only at hSw); go_simp; try with_reducible rfl)
    try simp only [Act.put, List.setIfInBounds_toArray, List.set_cons_zero, List.set_cons_succ]
    refine' wpAnyH_take (i := 10) (oi := ⟨_, _, _, _, _, _⟩) (v := _) rfl (by kernel_rfl) (by kernel_rfl) (by kernel_rfl) (fun _ _ _ h => h) (Or.inl ⟨by rfl, ?hyc10⟩) (by assumption) ?restc10
    case hyc10 => (intro w hSw; (try dsimp only at hSw); go_simp; try with_reducible rfl)
    try simp only [Act.put, List.setIfInBounds_toArray, List.set_cons_zero, List.set_cons_succ]
    refine wpAnyH_ready (rs := [7]) (by kernel_rfl) (by simp) ?_
    refine AllReadyH.cons (o := ⟨_, _, _, _, _, _⟩) rfl (fun K hK => ?_) AllReadyH.nil
    go_simp
    go_at_call 38
    refine (chWhere_calls ms _ (by omega)).mono ?_
    rintro e2 w2 ⟨rfl, hb2⟩
    rw [← Hu9.out]
    have hb2 : Below W.heap.size W w2 := Below.trans (Below.refl _ _).drew hb2
    have HB2 := Lib.hid hb2
    clear hb2
    refine hK.out _ _ (⟨HB2.out, kept_cell HB2.out c4, kept_cell HB2.out c5⟩) (fun hHeldN => ?_)
    clear hK K hHeld
    have hHeld := hHeldN
    clear hHeldN
    try simp only [Act.put, List.setIfInBounds_toArray, List.set_cons_zero, List.set_cons_succ]
    refine' wpAnyH_take (i := 11) (oi := ⟨_, _, _, _, _, _⟩) (v := _) rfl (by kernel_rfl) (by kernel_rfl) (by kernel_rfl) (fun _ _ _ h => h) (Or.inl ⟨by rfl, ?hycc11⟩) (by assumption) ?restcc11
    case hycc11 => (intro w hSw; (try dsimp only at hSw); go_simp; try with_reducible rfl)
    try simp only [Act.put, List.setIfInBounds_toArray, List.set_cons_zero, List.set_cons_succ]
    refine' wpAnyH_take (i := 12) (oi := ⟨_, _, _, _, _, _⟩) (v := _) rfl (by kernel_rfl) (by kernel_rfl) (by kernel_rfl) (fun _ _ _ h => h) (Or.inl ⟨by rfl, ?hycc12⟩) (by assumption) ?restcc12
    case hycc12 => (intro w hSw; (try dsimp only at hSw); go_simp; try with_reducible rfl)
    try simp only [Act.put, List.setIfInBounds_toArray, List.set_cons_zero, List.set_cons_succ]
    refine' wpAnyH_take (i := 13) (oi := ⟨_, _, _, _, _, _⟩) (v := _) rfl (by kernel_rfl) (by kernel_rfl) (by kernel_rfl) (fun _ _ _ h => h) (Or.inl ⟨by rfl, ?hycc13⟩) (by assumption) ?restcc13
    case hycc13 => (intro w hSw; (try dsimp only at hSw); go_simp; try with_reducible rfl)
    try simp only [Act.put, List.setIfInBounds_toArray, List.set_cons_zero, List.set_cons_succ]
    refine' wpAnyH_take (i := 14) (oi := ⟨_, _, _, _, _, _⟩) (v := _) rfl (by kernel_rfl) (by kernel_rfl) (by kernel_rfl) (fun _ _ _ h => h) (Or.inl ⟨by rfl, ?hycc14⟩) (by assumption) ?restcc14
    case hycc14 => (intro w hSw; (try dsimp only at hSw); go_simp; try with_reducible rfl)
    try simp only [Act.put, List.setIfInBounds_toArray, List.set_cons_zero, List.set_cons_succ]
    refine' wpAnyH_take (i := 15) (oi := ⟨_, _, _, _, _, _⟩) (v := _) rfl (by kernel_rfl) (by kernel_rfl) (by kernel_rfl) (fun _ _ _ h => h) (Or.inl ⟨by rfl, ?hycc15⟩) (by assumption) ?restcc15
    case hycc15 => (intro w hSw; (try dsimp only at hSw); go_simp; try with_reducible rfl)
    try simp only [Act.put, List.setIfInBounds_toArray, List.set_cons_zero, List.set_cons_succ]
    refine' wpAnyH_take (i := 16) (oi := ⟨_, _, _, _, _, _⟩) (v := _) rfl (by kernel_rfl) (by kernel_rfl) (by kernel_rfl) (fun _ _ _ h => h) (Or.inl ⟨by rfl, ?hycc16⟩) (by assumption) ?restcc16
    case hycc16 => (intro w hSw; (try dsimp only at hSw); go_simp; try with_reducible rfl)
    try simp only [Act.put, List.setIfInBounds_toArray, List.set_cons_zero, List.set_cons_succ]
    refine' wpAnyH_take (i := 17) (oi := ⟨_, _, _, _, _, _⟩) (v := _) rfl (by kernel_rfl) (by kernel_rfl) (by kernel_rfl) (fun _ _ _ h => h) (Or.inl ⟨by rfl, ?hycc17⟩) (by assumption) ?restcc17
    case hycc17 => (intro w hSw; (try dsimp only at hSw); go_simp; try with_reducible rfl)
    try simp only [Act.put, List.setIfInBounds_toArray, List.set_cons_zero, List.set_cons_succ]
    refine' wpAnyH_take (i := 18) (oi := ⟨_, _, _, _, _, _⟩) (v := _) rfl (by kernel_rfl) (by kernel_rfl) (by kernel_rfl) (fun _ _ _ h => h) (Or.inl ⟨by rfl, ?hycc18⟩) (by assumption) ?restcc18
    case hycc18 => (intro w hSw; (try dsimp only at hSw); go_simp; try with_reducible rfl)
    try simp only [Act.put, List.setIfInBounds_toArray, List.set_cons_zero, List.set_cons_succ]
    refine wpAnyH_done (by kernel_rfl) ?_ _
    refine NoPanic.normal ?_
    have HB3 := Lib.hid hHeld.1
    clear hHeld
    go_wp2_with fail
    go_ret
    exact ⟨.inl rfl, HB0.out.trans (HB3.out.mono HB0.out.size)⟩
  obtain ⟨u, hu9⟩ : ∃ u, u = uWhere (nums ms) := ⟨_, rfl⟩
  rw [← hu9] at hu
  have Hu9 := Lib.hid hu9
  clear hu9
  have hui : decide ((u : Int) < (ms.size : Int)) = false := decide_eq_false (by omega)
  have hni : decide ((16 : Int) < (n : Int)) = false := decide_eq_false (by omega)
  go_upto_region 3 with fail
  refine wp_region_noPanic ?_
  refine wp_region_held_drew (S := fun W' => Below W.heap.size W W' ∧ W'.cell? ⟨bc, 4, none⟩ = some (.string ms) ∧ W'.cell? ⟨bc, 5, none⟩ = some (.slice A n c)) (by kernel_rfl) (⟨(Below.refl _ _).drew, c4, c5⟩) (fun hHeld => ?_)
  refine' wpAnyH_take (i := 0) (oi := ⟨_, _, _, _, _, _⟩) (v := _) rfl (by kernel_rfl) (by kernel_rfl) (by kernel_rfl) (fun _ _ _ h => h) (Or.inl ⟨by rfl, ?hyd0⟩) (by assumption) ?restd0
  case hyd0 => (intro w hSw; (try dsimp only at hSw); go_simp; try with_reducible rfl)
  try simp only [Act.put, List.setIfInBounds_toArray, List.set_cons_zero, List.set_cons_succ]
  refine' wpAnyH_take (i := 1) (oi := ⟨_, _, _, _, _, _⟩) (v := _) rfl (by kernel_rfl) (by kernel_rfl) (by kernel_rfl) (fun _ _ _ h => h) (Or.inl ⟨by rfl, ?hyd1⟩) (by assumption) ?restd1
  case hyd1 => (intro w hSw; (try dsimp only at hSw); go_simp; try with_reducible rfl)
  try simp only [Act.put, List.setIfInBounds_toArray, List.set_cons_zero, List.set_cons_succ]
  refine' wpAnyH_take (i := 2) (oi := ⟨_, _, _, _, _, _⟩) (v := _) rfl (by kernel_rfl) (by kernel_rfl) (by kernel_rfl) (fun _ _ _ h => h) (Or.inl ⟨by rfl, ?hyd2⟩) (by assumption) ?restd2
  case hyd2 => (intro w hSw; (try dsimp only at hSw); go_simp; try with_reducible rfl)
  try simp only [Act.put, List.setIfInBounds_toArray, List.set_cons_zero, List.set_cons_succ]
  refine' wpAnyH_take (i := 3) (oi := ⟨_, _, _, _, _, _⟩) (v := _) rfl (by kernel_rfl) (by kernel_rfl) (by kernel_rfl) (fun _ _ _ h => h) (Or.inl ⟨by rfl, ?hyd3⟩) (by assumption) ?restd3
  case hyd3 => (intro w hSw; (try dsimp only at hSw); go_simp; try with_reducible rfl)
  try simp only [Act.put, List.setIfInBounds_toArray, List.set_cons_zero, List.set_cons_succ]
  refine' wpAnyH_take (i := 4) (oi := ⟨_, _, _, _, _, _⟩) (v := _) rfl (by kernel_rfl) (by kernel_rfl) (by kernel_rfl) (fun _ _ _ h => h) (Or.inl ⟨by rfl, ?hyd4⟩) (by assumption) ?restd4
  case hyd4 => (intro w hSw; (try dsimp only at hSw); go_simp; try with_reducible rfl)
  try simp only [Act.put, List.setIfInBounds_toArray, List.set_cons_zero, List.set_cons_succ]
  refine' wpAnyH_take (i := 5) (oi := ⟨_, _, _, _, _, _⟩) (v := _) rfl (by kernel_rfl) (by kernel_rfl) (by kernel_rfl) (fun _ _ _ h => h) (Or.inl ⟨by rfl, ?hyd5⟩) (by assumption) ?restd5
  case hyd5 => (intro w hSw; (try dsimp only at hSw); go_simp; try with_reducible rfl)
  try simp only [Act.put, List.setIfInBounds_toArray, List.set_cons_zero, List.set_cons_succ]
  refine' wpAnyH_take (i := 6) (oi := ⟨_, _, _, _, _, _⟩) (v := _) rfl (by kernel_rfl) (by kernel_rfl) (by kernel_rfl) (fun _ _ _ h => h) (Or.inl ⟨by rfl, ?hyd6⟩) (by assumption) ?restd6
  case hyd6 => (intro w hSw; (try dsimp only at hSw); go_simp; try with_reducible rfl)
  try simp only [Act.put, List.setIfInBounds_toArray, List.set_cons_zero, List.set_cons_succ]
  refine' wpAnyH_take (i := 8) (oi := ⟨_, _, _, _, _, _⟩) (v := _) rfl (by kernel_rfl) (by kernel_rfl) (by kernel_rfl) (fun _ _ _ h => h) (Or.inl ⟨by rfl, ?hyd8⟩) (by assumption) ?restd8
  case hyd8 => (intro w hSw; (try dsimp only at hSw); go_simp; try with_reducible rfl)
  try simp only [Act.put, List.setIfInBounds_toArray, List.set_cons_zero, List.set_cons_succ]
  refine' wpAnyH_take (i := 9) (oi := ⟨_, _, _, _, _, _⟩) (v := _) rfl (by kernel_rfl) (by kernel_rfl) (by kernel_rfl) (fun _ _ _ h => h) (Or.inl ⟨by rfl, ?hyd9⟩) (by assumption) ?restd9
  case hyd9 => (intro w hSw; (try dsimp only at hSw); go_simp; try with_reducible rfl)
  try simp only [Act.put, List.setIfInBounds_toArray, List.set_cons_zero, List.set_cons_succ]
  refine' wpAnyH_take (i := 10) (oi := ⟨_, _, _, _, _, _⟩) (v := _) rfl (by kernel_rfl) (by kernel_rfl) (by kernel_rfl) (fun _ _ _ h => h) (Or.inl ⟨by rfl, ?hyd10⟩) (by assumption) ?restd10
  case hyd10 => (intro w hSw; (try dsimp only at hSw); go_simp; try with_reducible rfl)
  try simp only [Act.put, List.setIfInBounds_toArray, List.set_cons_zero, List.set_cons_succ]
  refine wpAnyH_ready (rs := [7]) (by kernel_rfl) (by simp) ?_
  refine AllReadyH.cons (o := ⟨_, _, _, _, _, _⟩) rfl (fun K hK => ?_) AllReadyH.nil
  go_simp
  go_at_call 38
  refine (chWhere_calls ms _ (by omega)).mono ?_
  rintro e2 w2 ⟨rfl, hb2⟩
  rw [← Hu9.out]
  have hb2 : Below W.heap.size W w2 := Below.trans (Below.refl _ _).drew hb2
  have HB2 := Lib.hid hb2
  clear hb2
  refine hK.out _ _ (⟨HB2.out, kept_cell HB2.out c4, kept_cell HB2.out c5⟩) (fun hHeldN => ?_)
  clear hK K hHeld
  have hHeld := hHeldN
  clear hHeldN
  try simp only [Act.put, List.setIfInBounds_toArray, List.set_cons_zero, List.set_cons_succ]
  refine' wpAnyH_take (i := 11) (oi := ⟨_, _, _, _, _, _⟩) (v := _) rfl (by kernel_rfl) (by kernel_rfl) (by kernel_rfl) (fun _ _ _ h => h) (Or.inl ⟨by rfl, ?hydd11⟩) (by assumption) ?restdd11
  case hydd11 => (intro w hSw; (try dsimp only at hSw); go_simp; try with_reducible rfl)
  try simp only [Act.put, List.setIfInBounds_toArray, List.set_cons_zero, List.set_cons_succ]
  refine' wpAnyH_take (i := 12) (oi := ⟨_, _, _, _, _, _⟩) (v := _) rfl (by kernel_rfl) (by kernel_rfl) (by kernel_rfl) (fun _ _ _ h => h) (Or.inl ⟨by rfl, ?hydd12⟩) (by assumption) ?restdd12
  case hydd12 => (intro w hSw; (try dsimp only at hSw); go_simp; try with_reducible rfl)
  try simp only [Act.put, List.setIfInBounds_toArray, List.set_cons_zero, List.set_cons_succ]
  refine' wpAnyH_take (i := 13) (oi := ⟨_, _, _, _, _, _⟩) (v := _) rfl (by kernel_rfl) (by kernel_rfl) (by kernel_rfl) (fun _ _ _ h => h) (Or.inl ⟨by rfl, ?hydd13⟩) (by assumption) ?restdd13
  case hydd13 => (intro w hSw; (try dsimp only at hSw); go_simp; try with_reducible rfl)
  try simp only [Act.put, List.setIfInBounds_toArray, List.set_cons_zero, List.set_cons_succ]
  refine' wpAnyH_take (i := 14) (oi := ⟨_, _, _, _, _, _⟩) (v := _) rfl (by kernel_rfl) (by kernel_rfl) (by kernel_rfl) (fun _ _ _ h => h) (Or.inl ⟨by rfl, ?hydd14⟩) (by assumption) ?restdd14
  case hydd14 => (intro w hSw; (try dsimp only at hSw); go_simp; try with_reducible rfl)
  try simp only [Act.put, List.setIfInBounds_toArray, List.set_cons_zero, List.set_cons_succ]
  refine' wpAnyH_take (i := 15) (oi := ⟨_, _, _, _, _, _⟩) (v := _) rfl (by kernel_rfl) (by kernel_rfl) (by kernel_rfl) (fun _ _ _ h => h) (Or.inl ⟨by rfl, ?hydd15⟩) (by assumption) ?restdd15
  case hydd15 => (intro w hSw; (try dsimp only at hSw); go_simp; try with_reducible rfl)
  try simp only [Act.put, List.setIfInBounds_toArray, List.set_cons_zero, List.set_cons_succ]
  refine' wpAnyH_take (i := 16) (oi := ⟨_, _, _, _, _, _⟩) (v := _) rfl (by kernel_rfl) (by kernel_rfl) (by kernel_rfl) (fun _ _ _ h => h) (Or.inl ⟨by rfl, ?hydd16⟩) (by assumption) ?restdd16
  case hydd16 => (intro w hSw; (try dsimp only at hSw); go_simp; try with_reducible rfl)
  try simp only [Act.put, List.setIfInBounds_toArray, List.set_cons_zero, List.set_cons_succ]
  refine' wpAnyH_take (i := 17) (oi := ⟨_, _, _, _, _, _⟩) (v := _) rfl (by kernel_rfl) (by kernel_rfl) (by kernel_rfl) (fun _ _ _ h => h) (Or.inl ⟨by rfl, ?hydd17⟩) (by assumption) ?restdd17
  case hydd17 => (intro w hSw; (try dsimp only at hSw); go_simp; try with_reducible rfl)
  try simp only [Act.put, List.setIfInBounds_toArray, List.set_cons_zero, List.set_cons_succ]
  refine' wpAnyH_take (i := 18) (oi := ⟨_, _, _, _, _, _⟩) (v := _) rfl (by kernel_rfl) (by kernel_rfl) (by kernel_rfl) (fun _ _ _ h => h) (Or.inl ⟨by rfl, ?hydd18⟩) (by assumption) ?restdd18
  case hydd18 => (intro w hSw; (try dsimp only at hSw); go_simp; try with_reducible rfl)
  try simp only [Act.put, List.setIfInBounds_toArray, List.set_cons_zero, List.set_cons_succ]
  refine wpAnyH_done (by kernel_rfl) ?_ _
  refine NoPanic.normal ?_
  obtain ⟨W3, hW3⟩ : ∃ X, X = w2 := ⟨_, rfl⟩
  have HB3 : Hid (Below W.heap.size W W3) := Lib.hid (by rw [hW3]; exact HB2.out)
  rw [← hW3]
  clear hW3 hHeld HB2
  replace c5 := kept_cell HB3.out c5
  go_wp2_with fail
  go_loopw [3] (fun i wr => ∃ k : Nat, k ≤ n ∧ i = .int .i64 k ∧ Hid ((∀ j, j < k → j + 1 < n → dep D j < dep D (j + 1)) ∧ Below W3.heap.size W3 wr)) (fun i _ => n - (intOf i).toNat)
  case atStart => exact ⟨0, by omega, rfl, fun j hj => by omega, Below.refl _ _⟩
  case round =>
    obtain ⟨k, hk, rfl, HL⟩ := hrel
    obtain ⟨Wk, hWk⟩ : ∃ W, W = wr := ⟨_, rfl⟩
    subst hWk
    have c5k := kept_cell HL.out.2 c5
    by_cases hlt : k + 1 < n
    · have HDk := Lib.hid (((HD.out.below HB0.out).below HB3.out).below HL.out.2)
      obtain ⟨b, o, eA, hr0⟩ := HDk.out.at' (by omega)
      subst eA
      have hm0 := HD.out.hs _ (dep_mem (D := D) (k := k) (by rw [HD.out.len]; omega))
      have hm1 := HD.out.hs _ (dep_mem (D := D) (k := k + 1) (by rw [HD.out.len]; exact hlt))
      have z1 : (loadVar 67 ⟨b, o + k * 32, none⟩).run Try.prog Wk.drew = .ok (agg32 (dep D k)) Wk.drew := run_loadHash hm0.1 (fun j hj => hr0 k j (by omega) hj)
      have z2 : (loadVar 67 ⟨b, o + (k + 1) * 32, none⟩).run Try.prog Wk.drew = .ok (agg32 (dep D (k + 1))) Wk.drew := run_loadHash hm1.1 (fun j hj => hr0 (k + 1) j hlt hj)
      obtain ⟨X, hX⟩ : ∃ X, X = (ints .u8 (dep D k)).toArray := ⟨_, rfl⟩
      obtain ⟨Y, hY⟩ : ∃ X, X = (ints .u8 (dep D (k + 1))).toArray := ⟨_, rfl⟩
      simp only [agg32, ← hX, ← hY] at z1 z2
      have Hm0 := Lib.hid hm0
      have Hm1 := Lib.hid hm1
      have HX := Lib.hid hX
      have HY := Lib.hid hY
      have hk3 : IntKind.i64.wrap (k : Int) = (k : Int) := i64_id ⟨by omega, by omega⟩
      have hk5 : (k : Int) < (n : Int) := by omega
      have hk6 : (k : Int) + 1 < (n : Int) := by omega
      have hk7 : (0 : Int) ≤ (k : Int) + 1 := by omega
      have hk8 : IntKind.i64.wrap ((k : Int) + 1) = (k : Int) + 1 := i64_id ⟨by omega, by omega⟩
      have hk9 : ((k : Int) + 1).toNat = k + 1 := by omega
      clear hr0 hm0 hm1 hX hY
      go_upto_region 8 with fail
      refine wp_region_noPanic ?_
      refine wp_region_held_drew (S := fun W' => W'.cell? ⟨bc, 5, none⟩ = some (.slice (some ⟨b, o, none⟩) n c) ∧ (loadVar 67 ⟨b, o + k * 32, none⟩).run Try.prog W' = .ok (.agg X) W' ∧ (loadVar 67 ⟨b, o + (k + 1) * 32, none⟩).run Try.prog W' = .ok (.agg Y) W') (by kernel_rfl) (⟨c5k, z1, z2⟩) (fun hHeld => ?_)
      refine' wpAnyH_take (i := 0) (oi := ⟨_, _, _, _, _, _⟩) (v := _) rfl (by kernel_rfl) (by kernel_rfl) (by kernel_rfl) (fun _ _ _ h => h) (Or.inl ⟨by rfl, ?hye0⟩) (by assumption) ?reste0
      case hye0 => (intro w hSw; (try dsimp only at hSw); go_simp; try with_reducible rfl)
      try simp only [Act.put, List.setIfInBounds_toArray, List.set_cons_zero, List.set_cons_succ]
      refine' wpAnyH_take (i := 1) (oi := ⟨_, _, _, _, _, _⟩) (v := _) rfl (by kernel_rfl) (by kernel_rfl) (by kernel_rfl) (fun _ _ _ h => h) (Or.inl ⟨by rfl, ?hye1⟩) (by assumption) ?reste1
      case hye1 => (intro w hSw; (try dsimp only at hSw); go_simp; try with_reducible rfl)
      try simp only [Act.put, List.setIfInBounds_toArray, List.set_cons_zero, List.set_cons_succ]
      refine' wpAnyH_take (i := 2) (oi := ⟨_, _, _, _, _, _⟩) (v := _) rfl (by kernel_rfl) (by kernel_rfl) (by kernel_rfl) (fun _ _ _ h => h) (Or.inl ⟨by rfl, ?hye2⟩) (by assumption) ?reste2
      case hye2 => (intro w hSw; (try dsimp only at hSw); go_simp; try with_reducible rfl)
      try simp only [Act.put, List.setIfInBounds_toArray, List.set_cons_zero, List.set_cons_succ]
      refine' wpAnyH_take (i := 3) (oi := ⟨_, _, _, _, _, _⟩) (v := _) rfl (by kernel_rfl) (by kernel_rfl) (by kernel_rfl) (fun _ _ _ h => h) (Or.inl ⟨by rfl, ?hye3⟩) (by assumption) ?reste3
      case hye3 => (intro w hSw; (try dsimp only at hSw); go_simp; try with_reducible rfl)
      try simp only [Act.put, List.setIfInBounds_toArray, List.set_cons_zero, List.set_cons_succ]
      refine' wpAnyH_take (i := 4) (oi := ⟨_, _, _, _, _, _⟩) (v := .agg X) rfl (by kernel_rfl) (by kernel_rfl) (by kernel_rfl) (fun _ _ _ h => h) (Or.inl ⟨by rfl, ?hyl4⟩) (by assumption) ?restl4
      case hyl4 => (intro w hSw; exact exec_loadHash rfl rfl hSw.2.1)
      try simp only [Act.put, List.setIfInBounds_toArray, List.set_cons_zero, List.set_cons_succ]
      refine' wpAnyH_take (i := 5) (oi := ⟨_, _, _, _, _, _⟩) (v := _) rfl (by kernel_rfl) (by kernel_rfl) (by kernel_rfl) (fun _ _ _ h => h) (Or.inl ⟨by rfl, ?hye5⟩) (by assumption) ?reste5
      case hye5 => (intro w hSw; (try dsimp only at hSw); go_simp; try with_reducible rfl)
      try simp only [Act.put, List.setIfInBounds_toArray, List.set_cons_zero, List.set_cons_succ]
      refine' wpAnyH_take (i := 6) (oi := ⟨_, _, _, _, _, _⟩) (v := _) rfl (by kernel_rfl) (by kernel_rfl) (by kernel_rfl) (fun _ _ _ h => h) (Or.inl ⟨by rfl, ?hye6⟩) (by assumption) ?reste6
      case hye6 => (intro w hSw; (try dsimp only at hSw); go_simp; try with_reducible rfl)
      try simp only [Act.put, List.setIfInBounds_toArray, List.set_cons_zero, List.set_cons_succ]
      refine' wpAnyH_take (i := 7) (oi := ⟨_, _, _, _, _, _⟩) (v := _) rfl (by kernel_rfl) (by kernel_rfl) (by kernel_rfl) (fun _ _ _ h => h) (Or.inl ⟨by rfl, ?hye7⟩) (by assumption) ?reste7
      case hye7 => (intro w hSw; (try dsimp only at hSw); go_simp; try with_reducible rfl)
      try simp only [Act.put, List.setIfInBounds_toArray, List.set_cons_zero, List.set_cons_succ]
      refine' wpAnyH_take (i := 8) (oi := ⟨_, _, _, _, _, _⟩) (v := _) rfl (by kernel_rfl) (by kernel_rfl) (by kernel_rfl) (fun _ _ _ h => h) (Or.inl ⟨by rfl, ?hye8⟩) (by assumption) ?reste8
      case hye8 => (intro w hSw; (try dsimp only at hSw); go_simp; try with_reducible rfl)
      try simp only [Act.put, List.setIfInBounds_toArray, List.set_cons_zero, List.set_cons_succ]
      refine' wpAnyH_take (i := 9) (oi := ⟨_, _, _, _, _, _⟩) (v := _) rfl (by kernel_rfl) (by kernel_rfl) (by kernel_rfl) (fun _ _ _ h => h) (Or.inl ⟨by rfl, ?hye9⟩) (by assumption) ?reste9
      case hye9 => (intro w hSw; (try dsimp only at hSw); go_simp; try with_reducible rfl)
      try simp only [Act.put, List.setIfInBounds_toArray, List.set_cons_zero, List.set_cons_succ]
      refine' wpAnyH_take (i := 10) (oi := ⟨_, _, _, _, _, _⟩) (v := .agg Y) rfl (by kernel_rfl) (by kernel_rfl) (by kernel_rfl) (fun _ _ _ h => h) (Or.inl ⟨by rfl, ?hyl10⟩) (by assumption) ?restl10
      case hyl10 => (intro w hSw; exact exec_loadHash rfl rfl hSw.2.2)
      try simp only [Act.put, List.setIfInBounds_toArray, List.set_cons_zero, List.set_cons_succ]
      refine wpAnyH_ready (rs := [11]) (by kernel_rfl) (by simp) ?_
      refine AllReadyH.cons (o := ⟨_, _, _, _, _, _⟩) rfl (fun K hK => ?_) AllReadyH.nil
      go_simp
      go_at_call 34
      rw [HX.out, HY.out]
      refine (rLess20_calls (dep D k) (dep D (k + 1)) _ Hm0.out.1 Hm1.out.1 Hm0.out.2 Hm1.out.2).mono ?_
      rintro e9 w9 ⟨r, rfl, Hr, hb9⟩
      have hb9 : Below Wk.heap.size Wk w9 := Below.trans (Below.refl _ _).drew hb9
      have HB9 := Lib.hid hb9
      clear hb9
      refine hK.out _ _ (⟨kept_cell HB9.out c5k, by rw [HX.out]; exact run_loadHash Hm0.out.1 (fun j hj => (HDk.out.below HB9.out).cell9 k j (by omega) hj), by rw [HY.out]; exact run_loadHash Hm1.out.1 (fun j hj => (HDk.out.below HB9.out).cell9 (k + 1) j hlt hj)⟩) (fun hHeldN => ?_)
      clear hK K hHeld
      have hHeld := hHeldN
      clear hHeldN
      try simp only [Act.put, List.setIfInBounds_toArray, List.set_cons_zero, List.set_cons_succ]
      cases r with
      | false =>
        refine' wpAnyH_take (i := 12) (oi := ⟨_, _, _, _, _, _⟩) (v := _) rfl (by kernel_rfl) (by kernel_rfl) (by kernel_rfl) (fun _ _ _ h => h) (Or.inl ⟨by rfl, ?hym12⟩) (by assumption) ?restm12
        case hym12 => (intro w hSw; (try dsimp only at hSw); go_simp; try with_reducible rfl)
        try simp only [Act.put, List.setIfInBounds_toArray, List.set_cons_zero, List.set_cons_succ]
        refine wpAnyH_done (by kernel_rfl) ?_ _
        refine NoPanic.normal ?_
        clear hHeld
        go_wp2_with fail
        go_ret
        exact ⟨.inl rfl, HB0.out.trans ((HB3.out.trans ((HL.out.2.trans (HB9.out.mono HL.out.2.size)).mono HB3.out.size)).mono HB0.out.size)⟩
      | true =>
        refine' wpAnyH_take (i := 12) (oi := ⟨_, _, _, _, _, _⟩) (v := _) rfl (by kernel_rfl) (by kernel_rfl) (by kernel_rfl) (fun _ _ _ h => h) (Or.inl ⟨by rfl, ?hyn12⟩) (by assumption) ?restn12
        case hyn12 => (intro w hSw; (try dsimp only at hSw); go_simp; try with_reducible rfl)
        try simp only [Act.put, List.setIfInBounds_toArray, List.set_cons_zero, List.set_cons_succ]
        refine wpAnyH_done (by kernel_rfl) ?_ _
        refine NoPanic.normal ?_
        clear hHeld
        go_wp2_with fail
        go_roundw
        case rel => exact ⟨k + 1, by omega, by go_num, Lib.hid ⟨fun j hj hj1 => by
            rcases Nat.lt_or_ge j k with h | h
            · exact HL.out.1 j h hj1
            · obtain rfl : j = k := by omega
              exact Hr.out.1 rfl, HL.out.2.trans (HB9.out.mono HL.out.2.size)⟩⟩
        case measure => simp [intOf]; omega
    · have hk6 : ¬ (k : Int) + 1 < (n : Int) := by omega
      go_wp2_with fail
      go_ret
      obtain ⟨q, s, e1, e2, h⟩ := rright_of (a := a) (ms := ms) (sq := sq) (st := st) (tm := tm) (D := D) Hac.out (by omega) (by omega) (by omega) (by omega) (by omega) (by rw [← Hu9.out]; exact hu) (by rw [HD.out.len]; omega) HD.out.hs (fun j hj => HL.out.1 j (by rw [HD.out.len] at hj; omega) (by rw [HD.out.len] at hj; exact hj))
      exact ⟨.inr ⟨rfl, q, e1, s, e2, h⟩, HB0.out.trans ((HB3.out.trans (HL.out.2.mono HB3.out.size)).mono HB0.out.size)⟩
end Go.Proofs.Ytdbkbeojedndbaa
/-
  Few ops, and names that are spoken (chapter 20).
-/
namespace Go.Proofs.Ytdbkbeojedndbaa
open Go.RowKit

set_option maxHeartbeats 2000000 in
set_option maxRecDepth 100000 in
theorem rFew20_calls (a : ByteArray) (sq st tm : Int) (ms : ByteArray) (A : Option Addr) (n c : Nat) (O : Option Addr) (on oc : Nat) (L : List OpV) (most : Int) (w : World) (ha : a.size ≤ maxLen) (hms : ms.size ≤ maxLen) (hn : n ≤ maxLen) (hO : OpsAt w O on L) (hon : on ≤ maxLen) (hm : 0 ≤ most ∧ most ≤ 1000) :
    Calls Try.prog 14 #[.agg (chgC2 a sq st tm ms (.slice A n c) (.slice O on oc)), .int .i64 most] w fun e w' => (e = .returned (.bool false) ∨ e = .returned (.bool true) ∧ a.size ≤ 100 ∧ ms.size ≤ 2000 ∧ n ≤ 40 ∧ (on : Int) ≤ most ∧ ∀ i, i < on → FewAt (opv L i)) ∧ Below w.heap.size w w' := by
  have HO := Lib.hid hO
  have Hon := Lib.hid hon
  have Hm := Lib.hid hm
  clear hO hon hm
  unfold maxLen at hn ha hms
  go_enter Try.func14, Try.ntmps14
  obtain ⟨bc, hbc⟩ : ∃ g, g = w.heap.size := ⟨_, rfl⟩
  go_upto_region 1 with fail
  obtain ⟨W, hW⟩ : ∃ X, X = w.alloc (.cells #[.string a, .int .i64 sq, .int .i64 st, .int .i64 tm, .string ms, .slice A n c, .slice O on oc] 27) := ⟨_, rfl⟩
  rw [← hW, ← hbc]
  have HB0 : Hid (Below w.heap.size w W) := Lib.hid (by rw [hW]; exact (Below.refl _ _).alloc (Nat.le_refl _) _)
  have hrow : W.heap[bc]? = some (.cells (chgC2 a sq st tm ms (.slice A n c) (.slice O on oc)) 27 (0, 0)) := by rw [hW, hbc]; exact heap_alloc_new w _
  clear hW hbc
  have c0 : W.cell? ⟨bc, 0, none⟩ = some (.string a) := cell_of_row W bc 0 _ _ (0, 0) hrow
  have c4 : W.cell? ⟨bc, 4, none⟩ = some (.string ms) := cell_of_row W bc 4 _ _ (0, 0) hrow
  have c5 : W.cell? ⟨bc, 5, none⟩ = some (.slice A n c) := cell_of_row W bc 5 _ _ (0, 0) hrow
  have c6 : W.cell? ⟨bc, 6, none⟩ = some (.slice O on oc) := cell_of_row W bc 6 _ _ (0, 0) hrow
  clear hrow
  by_cases h1 : a.size ≤ 100
  · by_cases h2 : ms.size ≤ 2000
    · by_cases h3 : n ≤ 40
      · go_wp2_with fail
        refine (Few_calls O on oc L most W (HO.out.below HB0.out) Hon.out Hm.out).mono ?_
        rintro e w2 ⟨⟨he, rfl⟩⟩
        rcases he with rfl | ⟨rfl, hm2, hF⟩
        · go_wp2_with fail
          go_ret
          first | exact ⟨.inl rfl, HB0.out⟩ | exact ⟨rfl, HB0.out⟩
        · have HF := Lib.hid hF
          have Hm2 := Lib.hid hm2
          clear hF hm2
          go_wp2_with fail
          go_ret
          exact ⟨.inr ⟨rfl, h1, h2, h3, Hm2.out, HF.out⟩, HB0.out⟩
      · have h3' : decide ((n : Int) ≤ 40) = false := decide_eq_false (by omega)
        go_wp2_with fail
        go_ret
        first | exact ⟨.inl rfl, HB0.out⟩ | exact ⟨rfl, HB0.out⟩
    · have h2' : decide ((ms.size : Int) ≤ 2000) = false := decide_eq_false (by omega)
      go_wp2_with fail
      go_ret
      first | exact ⟨.inl rfl, HB0.out⟩ | exact ⟨rfl, HB0.out⟩
  · have h1' : decide ((a.size : Int) ≤ 100) = false := decide_eq_false (by omega)
    go_wp2_with fail
    go_ret
    first | exact ⟨.inl rfl, HB0.out⟩ | exact ⟨rfl, HB0.out⟩
set_option maxHeartbeats 2000000 in
set_option maxRecDepth 100000 in
theorem spoken_calls (a : ByteArray) (sq st tm : Int) (ms : ByteArray) (dv : Value) (O : Option Addr) (on oc : Nat) (L : List OpV) (w : World) (hdv : ∃ A n c, dv = .slice A n c) (hO : OpsAt w O on L) (hon : on ≤ 100) (hF : ∀ i, i < on → FewAt (opv L i)) :
    Calls Try.prog 16 #[.agg (chgC2 a sq st tm ms dv (.slice O on oc))] w fun e w' => (e = .returned (.bool false) ∨ e = .returned (.bool true) ∧ ∀ y ∈ namesL L, 1 ≤ y.2.size ∧ y.2.size ≤ 16) ∧ Below w.heap.size w w' := by
  obtain ⟨A, n, c, rfl⟩ := hdv
  have HO := Lib.hid hO
  have HF := Lib.hid hF
  have Hsm := Lib.hid (small_of2 hO hF)
  clear hO hF
  go_enter Try.func16, Try.ntmps16
  obtain ⟨bc, hbc⟩ : ∃ g, g = w.heap.size := ⟨_, rfl⟩
  go_upto_region 1 with fail
  obtain ⟨W, hW⟩ : ∃ X, X = w.alloc (.cells #[.string a, .int .i64 sq, .int .i64 st, .int .i64 tm, .string ms, .slice A n c, .slice O on oc] 27) := ⟨_, rfl⟩
  rw [← hW, ← hbc]
  have HB0 : Hid (Below w.heap.size w W) := Lib.hid (by rw [hW]; exact (Below.refl _ _).alloc (Nat.le_refl _) _)
  have hrow : W.heap[bc]? = some (.cells (chgC2 a sq st tm ms (.slice A n c) (.slice O on oc)) 27 (0, 0)) := by rw [hW, hbc]; exact heap_alloc_new w _
  clear hW hbc
  have c6 : W.cell? ⟨bc, 6, none⟩ = some (.slice O on oc) := cell_of_row W bc 6 _ _ (0, 0) hrow
  clear hrow
  go_wp2_with fail
  refine (rNames_calls O on oc L W (HO.out.below HB0.out) hon HF.out).mono ?_
  rintro e w1 ⟨v, rfl, ho1, hl1, hb1⟩
  have HB1 := Lib.hid (below_seq HB0.out (Nat.le_refl _) hb1)
  obtain ⟨N, hN⟩ : ∃ N, N = namesL L := ⟨_, rfl⟩
  rw [← hN] at ho1 hl1
  have HN := Lib.hid hN
  have HsN : Hid (∀ y ∈ N, y.2.size ≤ 100) := Lib.hid (by rw [hN]; exact Hsm.out)
  obtain ⟨A1, c1, rfl, _, hr1, _⟩ := own_rdV ho1
  obtain ⟨m, hm⟩ : ∃ m, m = N.length := ⟨_, rfl⟩
  rw [← hm] at hr1 hl1 ⊢
  have Hm := Lib.hid hm
  have Hr1 := Lib.hid hr1
  clear hN hm hr1 ho1 hb1
  go_wp2_with fail
  go_loopw [4] (fun i wr => ∃ k : Nat, k ≤ m ∧ i = .int .i64 k ∧ Hid ((∀ y ∈ N.take k, 1 ≤ y.2.size ∧ y.2.size ≤ 16) ∧ Below w1.heap.size w1 wr)) (fun i _ => m - (intOf i).toNat)
  case atStart => exact ⟨0, by omega, rfl, fun y hy => (by simp at hy), Below.refl _ _⟩
  case round =>
    obtain ⟨k, hk, rfl, HL⟩ := hrel
    obtain ⟨Wk, hWk⟩ : ∃ W, W = wr := ⟨_, rfl⟩
    subst hWk
    by_cases hlt : k < m
    · obtain ⟨b, o, eA, hc⟩ := Hr1.out.2 (by omega)
      subst eA
      have hy : N[k]? = some (nm N k) := by unfold nm; rw [List.getD_eq_getElem?_getD, List.getElem?_eq_getElem (by rw [← Hm.out]; exact hlt)]; rfl
      have hyM : nm N k ∈ N := List.mem_of_getElem? hy
      have hcs : (nms N)[k * 2 + 1]? = some (.string (nm N k).2) := (nms_get (by rw [← Hm.out]; exact hlt)).2
      have z1 := kept_cell HL.out.2 (hc (k * 2 + 1) _ hcs)
      obtain ⟨s, hs⟩ : ∃ s, s = (nm N k).2 := ⟨_, rfl⟩
      rw [← hs, ← Nat.add_assoc] at z1
      have hsz : s.size ≤ 100 := by rw [hs]; exact HsN.out _ hyM
      have Hs := Lib.hid hs
      have Hy := Lib.hid hy
      clear hc hcs hs hy hyM
      go_wp2_with fail
      refine (Actor_calls s Wk (by omega)).mono ?_
      rintro e w2 ⟨he, rfl⟩
      rcases he with rfl | ⟨rfl, hsa⟩
      · go_wp2_with fail
        go_ret
        exact ⟨.inl rfl, HB1.out.trans (HL.out.2.mono HB1.out.size)⟩
      · have Hsa := Lib.hid hsa
        clear hsa
        go_wp2_with fail
        go_roundw
        case rel =>
          refine ⟨k + 1, by omega, by go_num, Lib.hid ⟨fun y hy => ?_, HL.out.2⟩⟩
          rw [List.take_add_one, Hy.out] at hy
          rcases List.mem_append.1 hy with h | h
          · exact HL.out.1 y h
          · simp at h
            rw [h, ← Hs.out]
            exact Hsa.out
        case measure => simp [intOf]; omega
    · obtain rfl : k = m := by omega
      go_wp2_with fail
      go_ret
      refine ⟨.inr ⟨rfl, fun y hy => HL.out.1 y ?_⟩, HB1.out.trans (HL.out.2.mono HB1.out.size)⟩
      rw [Hm.out, List.take_length, HN.out]
      exact hy
end Go.Proofs.Ytdbkbeojedndbaa
