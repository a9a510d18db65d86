/-
  The laws of chapter 07: awake, SymsRise, SymsBack.
-/
import Derived.Test.YtempgkglhgelkaaDoorSymsW
namespace Go.Proofs.YtempgkglhgelkaaDoor
open Go.RowKit

def Tabs (w : World) : Prop := RowsAt w 0 lens ∧ RowsAt w 1 dists
theorem Tabs.below {w w1 : World} (h : Tabs w) (hb : Below w.heap.size w w1) : Tabs w1 := ⟨h.1.below hb, h.2.below hb⟩

set_option maxHeartbeats 400000 in
theorem awake_calls (w : World) (hc : Tabs w) :
    Calls Tryd.prog 11 #[] w fun e w' => e = .returned (.bool true) ∧ Below w.heap.size w w' := by
  have Hc := Lib.hid hc
  clear hc
  have e1 : symS 257 lens (clampL 12) = 265 := by decide
  have e2 : symB lens (clampL 12) = 1 := by decide
  have e3 : symX lens (clampL 12) = 1 := by decide
  have e4 : symS 0 dists (clampD 32768) = 29 := by decide
  have e5 : symB dists (clampD 32768) = 13 := by decide
  have e6 : symX dists (clampD 32768) = 8191 := by decide
  go_enter Tryd.func11, Tryd.ntmps11
  go_wp2_with (first | (go_at_call 12; refine (Length_calls _ _ (by omega) (by omega) Hc.out.1).mono ?_; rintro e w1 ⟨rfl, hb1⟩; rw [e1, e2, e3]) | (go_at_call 13; refine (Distance_calls _ _ (by omega) (by omega) (Hc.out.2.below hb1)).mono ?_; rintro e w2 ⟨rfl, hb2⟩; rw [e4, e5, e6]))
  go_ret
  exact ⟨rfl, (((hb1.trans (hb2.mono hb1.size)).alloc (Nat.le_trans hb1.size hb2.size) _).alloc (by have := hb1.size; have := hb2.size; simp; omega) _)⟩

theorem Tabs.alloc {w : World} (h : Tabs w) (o : Obj) : Tabs (w.alloc o) := h.below ((Below.refl _ _).alloc (Nat.le_refl _) _)

/-- What the law asks of two numbers in a table. -/
def Rises (first : Int) (rows : List (Int × Int)) (p q : Int) : Prop := symS first rows p < symS first rows q ∨ symS first rows p = symS first rows q ∧ symX rows p ≤ symX rows q

theorem rises_by {first : Int} {rows : List (Int × Int)} {p q : Int} (h : Rises first rows p q) :
    (decide (symS first rows p < symS first rows q) = true) ∨ (decide (symS first rows p < symS first rows q) = false ∧ (symS first rows p == symS first rows q) = true ∧ decide (symX rows p ≤ symX rows q) = true) := by
  rcases h with h | ⟨h, h2⟩
  · left; simpa using h
  · right; refine ⟨?_, ?_, ?_⟩ <;> simp <;> omega

set_option maxHeartbeats 1000000 in
theorem SymsRise_calls (a b : Int) (w : World) (ha : 0 ≤ a) (ha2 : a ≤ 65535) (hb : 0 ≤ b) (hb2 : b ≤ 65535) (hc : Tabs w) :
    Calls Tryd.prog 3 #[.int .u16 a, .int .u16 b] w fun e w' => e = .returned (.bool true) ∧ Below w.heap.size w w' := by
  have Hc := Lib.hid hc
  clear hc
  have hab : (a < b ∧ Hid (Rises 257 lens (clampL a) (clampL b) ∧ Rises 0 dists (clampD a) (clampD b))) ∨ (b < a ∧ Hid (Rises 257 lens (clampL b) (clampL a) ∧ Rises 0 dists (clampD b) (clampD a))) ∨ (a = b ∧ Hid (Rises 257 lens (clampL a) (clampL a) ∧ Rises 0 dists (clampD a) (clampD a))) := by
    rcases Int.lt_trichotomy a b with h | h | h
    · exact .inl ⟨h, sym_rise _ _ _ _ (clampL_mono (by omega)), sym_rise _ _ _ _ (clampD_mono (by omega))⟩
    · exact .inr (.inr ⟨h, .inr ⟨rfl, Int.le_refl _⟩, .inr ⟨rfl, Int.le_refl _⟩⟩)
    · exact .inr (.inl ⟨h, sym_rise _ _ _ _ (clampL_mono (by omega)), sym_rise _ _ _ _ (clampD_mono (by omega))⟩)
  rcases hab with ⟨hab, Hr⟩ | ⟨hab, Hr⟩ | ⟨rfl, Hr⟩
  all_goals
    go_enter Tryd.func3, Tryd.ntmps3
    go_wp2_with fail
    refine (awake_calls _ Hc.out).mono ?_; rintro e w1 ⟨rfl, hb1⟩
    have t1 := Lib.hid (Hc.out.below hb1)
    go_wp2_with fail
    refine (Length_calls _ _ (by omega) (by omega) t1.out.1).mono ?_; rintro e w2 ⟨rfl, hb2⟩
    have t2 := Lib.hid (t1.out.below hb2)
    go_wp2_with fail
    refine (Length_calls _ _ (by omega) (by omega) t2.out.1).mono ?_; rintro e w3 ⟨rfl, hb3⟩
    have t3 := Lib.hid (t2.out.below hb3)
    go_wp2_with fail
    refine (Distance_calls _ _ (by omega) (by omega) ((t3.out.alloc _).alloc _).2).mono ?_; rintro e w4 ⟨rfl, hb4⟩
    have t4 := Lib.hid (((t3.out.alloc _).alloc _).below hb4)
    have a0 := kept_cell hb4 (a := ⟨w3.heap.size, 0, none⟩) (by simp; rfl)
    have a2 := kept_cell hb4 (a := ⟨w3.heap.size, 2, none⟩) (by simp; rfl)
    have b0 := kept_cell hb4 (a := ⟨w3.heap.size + 1, 0, none⟩) (by simp; rfl)
    have b2 := kept_cell hb4 (a := ⟨w3.heap.size + 1, 2, none⟩) (by simp; rfl)
    go_wp2_with fail
    refine (Distance_calls _ _ (by omega) (by omega) t4.out.2).mono ?_; rintro e w5 ⟨rfl, hb5⟩
    replace a0 := kept_cell hb5 a0
    replace a2 := kept_cell hb5 a2
    replace b0 := kept_cell hb5 b0
    replace b2 := kept_cell hb5 b2
    replace a0 := kept_new2 a0
    replace a2 := kept_new2 a2
    replace b0 := kept_new2 b0
    replace b2 := kept_new2 b2
    have H5 : Hid (Below w.heap.size w w5) := below_seq (below_seq (below_new (below_new (below_seq (below_seq hb1 (Nat.le_refl _) hb2) (Nat.le_refl _) hb3) (Nat.le_refl _) _) (Nat.le_refl _) _) (Nat.le_refl _) hb4) (Nat.le_refl _) hb5
    clear hb1 hb2 hb3 hb4 hb5 t1 t2 t3 t4
    obtain ⟨r1, r2⟩ := Hr.out
    rcases rises_by r1 with g1 | ⟨g1, g2, g3⟩ <;> rcases rises_by r2 with k1 | ⟨k1, k2, k3⟩
  all_goals
    clear r1 r2
    go_wp2
    go_ret
    exact ⟨rfl, below_new (below_new H5.out (Nat.le_refl _) _) (Nat.le_refl _) _⟩
theorem bounds_of_u16 {n : Int} (h : (Lit.int .u16 n).wf = true) : 0 ≤ n ∧ n ≤ 65535 := by
  simp [Lit.wf, IntKind.min, IntKind.max, IntKind.signed, IntKind.bits] at h
  omega
theorem SymsRise_walk (a b : Int) (w : World) (ha : (Lit.int .u16 a).wf = true) (hb : (Lit.int .u16 b).wf = true) (hc : Tabs w) :
    Calls Tryd.prog 3 #[.int .u16 a, .int .u16 b] w fun e w' => e = .returned (.bool true) ∧ Below w.heap.size w w' :=
  SymsRise_calls a b w (bounds_of_u16 ha).1 (bounds_of_u16 ha).2 (bounds_of_u16 hb).1 (bounds_of_u16 hb).2 hc
end Go.Proofs.YtempgkglhgelkaaDoor
