/-
  CodesPresses: Press and the document's Press tell the same items.
-/
import Derived.Test.YtempgkglhgelkaaCodesL
import Derived.Test.YtempgkglhgelkaaCodesR
namespace Go.Proofs.Ytempgkglhgelkaa
open Go.RowKit

set_option maxHeartbeats 2000000 in
set_option maxRecDepth 200000 in
theorem CodesPresses_calls (A : Option Addr) (len cap : Nat) (xs : List Int) (w : World) (hR : Rd w .u8 A len xs) (hr : ∀ j, j < len → 0 ≤ rd xs j ∧ rd xs j ≤ 255) (hlen : len ≤ 140737488351232) :
    Calls Try.prog 3 #[.slice A len cap] w fun e w' => e = .returned (.bool true) ∧ Below w.heap.size w w' := by
  have HR := Lib.hid hR
  have Hr := Lib.hid hr
  clear hR hr
  by_cases hl : len ≤ 500
  · go_enter Try.func3, Try.ntmps3
    go_wp2_with fail
    refine (awake8_calls _).mono ?_
    rintro e w1 ⟨rfl, hb1⟩
    have Hb1 := Lib.hid hb1
    clear hb1
    go_wp2_with fail
    refine (right8_calls A len cap xs _ (HR.out.below (Hb1.out.mono (Nat.le_refl _))) Hr.out (by omega)).mono ?_
    rintro e w2 ⟨v2, rfl, hown2, hb2⟩
    obtain ⟨A2, c2, rfl, _, hR2⟩ := own_rd hown2
    have Hb2 := Lib.hid (below_seq Hb1.out (Nat.le_refl _) hb2)
    have HR2 := Lib.hid hR2
    clear hown2 hb2 hR2 Hb1
    go_wp2_with fail
    refine (Press_calls A2 len c2 _ _ HR2.out (by omega)).mono ?_
    rintro e w3 ⟨v3, rfl, hown3, hb3⟩
    obtain ⟨A3, c3, rfl⟩ := own_slice hown3
    have Hb3 := Lib.hid (below_seq Hb2.out (Nat.le_refl _) hb3)
    have Hown3 := Lib.hid hown3
    clear hown3 hb3 HR2 Hb2
    go_wp2_with fail
    refine (right8_calls A len cap xs _ (HR.out.below (Hb3.out.mono (Nat.le_refl _))) Hr.out (by omega)).mono ?_
    rintro e w4 ⟨v4, rfl, hown4, hb4⟩
    obtain ⟨A4, c4, rfl, _, hR4⟩ := own_rd hown4
    have Hb4 := Lib.hid (below_seq Hb3.out (Nat.le_refl _) hb4)
    have Hown34 := Lib.hid (own_below Hown3.out hb4)
    have HR4 := Lib.hid hR4
    clear hown4 hb4 hR4 Hb3 Hown3
    go_wp2_with fail
    refine (refPress_calls A4 len c4 _ _ HR4.out (by omega) (fun j hj => by
      have := HR.out.1
      rw [rd_mod16 _ _ (by omega)]
      omega)).mono ?_
    rintro e w5 ⟨v5, rfl, hown5, hb5⟩
    obtain ⟨A5, c5, rfl⟩ := own_slice hown5
    have Hb5 := Lib.hid (below_seq Hb4.out (Nat.le_refl _) hb5)
    have Hown35 := Lib.hid (own_below Hown34.out hb5)
    have Hown5 := Lib.hid hown5
    have le : (items (mod16 xs)).length ≤ len := by
      have := items_le (mod16 xs)
      rw [mod16_length, HR.out.1] at this
      exact this
    clear hown5 hb5 HR4 Hb4 Hown34
    generalize hits : items (mod16 xs) = its at *
    have hnn : ∀ k, (h : k < its.length) → True := fun _ _ => trivial
    clear hits hnn
    go_wp2
    go_loopw [5] (fun i wr => ∃ k : Nat, k ≤ its.length ∧ i = .int .i64 k ∧ Below w5.heap.size w5 wr) (fun i _ => its.length - (intOf i).toNat)
    case atStart => exact ⟨0, by omega, rfl, Below.refl _ _⟩
    case round =>
      obtain ⟨k, hk, rfl, hbi⟩ := hrel
      have Hbi := Lib.hid hbi
      clear hbi
      by_cases hlt : k < its.length
      · obtain ⟨g3, _, e3, _, _, _, hc3, _⟩ := own_form Hown35.out (by omega)
        cases e3
        obtain ⟨g5, _, e5, _, _, _, hc5, _⟩ := own_form Hown5.out (by omega)
        cases e5
        obtain ⟨i0, i1, i2⟩ := itemCells_at its k hlt
        have a0 := kept_cell Hbi.out (hc3 _ _ i0)
        have a1 := kept_cell Hbi.out (hc3 _ _ i1)
        have a2 := kept_cell Hbi.out (hc3 _ _ i2)
        have b0 := kept_cell Hbi.out (hc5 _ _ i0)
        have b1 := kept_cell Hbi.out (hc5 _ _ i1)
        have b2 := kept_cell Hbi.out (hc5 _ _ i2)
        clear hc3 hc5 i0 i1 i2
        generalize its[k] = it at *
        obtain ⟨p, q, r⟩ := it
        have t0 : (p != p) = false := by simp
        have t1 : (q != q) = false := by simp
        have t2 : (r != r) = false := by simp
        go_wp2
        go_quiet (fail)
        go_wp2
        go_roundw
        case rel => exact ⟨k + 1, by omega, by go_num, Hbi.out.trans ⟨rfl, rfl, rfl, Nat.le_refl _, fun _ _ => rfl⟩⟩
        case measure => simp [intOf]; omega
      · obtain rfl : k = its.length := by omega
        go_wp2
        go_ret
        exact ⟨rfl, below_seq Hb5.out (Nat.le_refl _) Hbi.out⟩
  · go_enter Try.func3, Try.ntmps3
    go_wp2_with fail
    refine (awake8_calls _).mono ?_
    rintro e w1 ⟨rfl, hb1⟩
    have Hb1 := Lib.hid hb1
    clear hb1
    go_wp2_with fail
    refine (awake8_calls _).mono ?_
    rintro e w2 ⟨rfl, hb2⟩
    have Hb2 := Lib.hid (below_seq Hb1.out (Nat.le_refl _) hb2)
    clear hb2
    go_wp2
    go_ret
    exact ⟨rfl, Hb2.out⟩
theorem CodesPresses_walk (A : Option Addr) (len cap : Nat) (z : List Int) (w : World) (h1 : IsRow .u8 w A len cap z) (h2 : len * 1 ≤ 140737488351232) :
    Calls Try.prog 3 #[.slice A len cap] w fun e w' => e = .returned (.bool true) ∧ Below w.heap.size w w' :=
  CodesPresses_calls A len cap _ w h1.rd h1.u8 (by omega)
end Go.Proofs.Ytempgkglhgelkaa
