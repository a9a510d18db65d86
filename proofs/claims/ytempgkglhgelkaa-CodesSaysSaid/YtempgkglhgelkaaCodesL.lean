/-
  The laws of chapter 08 that speak of Press alone: awake, right; CodesFew.
-/
import Derived.Test.YtempgkglhgelkaaCodesW
import Derived.OpenShut
namespace Go.Proofs.Ytempgkglhgelkaa
open Go.RowKit

theorem elInt : ElT Try.prog 26 3 (.int .i64 0) 1 8 := ⟨Try.underlying26, by kernel_rfl, rfl, by decide, by decide⟩

set_option maxHeartbeats 1000000 in
theorem awake8_calls (w : World) : Calls Try.prog 11 #[] w fun e w' => e = .returned (.bool true) ∧ Below w.heap.size w w' := by
  have hI : items [5, 5, 5, 5] = [⟨5, 0, 0⟩, ⟨16, 2, 0⟩] := by kernel_rfl
  have HI := Lib.hid hI
  clear hI
  go_enter Try.func11, Try.ntmps11
  go_wp2_with fail
  refine (Press_calls _ 4 _ [5, 5, 5, 5] _ (Blk.rd (heap_alloc_new w _) rfl) (by decide)).mono ?_
  rintro e w1 ⟨v, rfl, hown, hb⟩
  rw [HI.out] at hown
  obtain ⟨g, c, rfl, _, _, _, hcell, _⟩ := own_form hown (by decide)
  have c0 := hcell 0 _ rfl
  have c1 := hcell 1 _ rfl
  have c2 := hcell 2 _ rfl
  have c3 := hcell 3 _ rfl
  have c4 := hcell 4 _ rfl
  have c5 := hcell 5 _ rfl
  have Hb := Lib.hid hb
  clear hcell hown hb
  go_wp2
  go_ret
  exact ⟨rfl, (below_new (Below.refl _ _) (Nat.le_refl _) _).trans (Hb.out.mono (by simp))⟩

set_option maxHeartbeats 1000000 in
theorem right8_calls (A : Option Addr) (n cap : Nat) (xs : List Int) (w : World) (hR : Rd w .u8 A n xs) (hr : ∀ j, j < n → 0 ≤ rd xs j ∧ rd xs j ≤ 255) (hn : n ≤ 1000000) :
    Calls Try.prog 13 #[.slice A n cap] w fun e w' => ∃ v, e = .returned v ∧ w'.ownsRow w.heap.size 3 1 v n (ints .i64 (mod16 xs)) ∧ Below w.heap.size w w' := by
  have Hlen := Lib.hid hR.1
  have HR := Lib.hid hR
  have Hr := Lib.hid hr
  clear hR hr
  go_enter Try.func13, Try.ntmps13
  go_wp2
  go_loopw [3, 4] (fun v i wr => ∃ k : Nat, k ≤ n ∧ i = .int .i64 k ∧ wr.ownsRow w.heap.size 3 1 v k (ints .i64 (mod16 (xs.take k))) ∧ Below w.heap.size w wr) (fun _ i _ => n - (intOf i).toNat)
  case atStart => exact ⟨0, by omega, rfl, World.ownsRow_nil _ _ _ _, Below.refl _ _⟩
  case round =>
    obtain ⟨k, hk, rfl, hown, hbel⟩ := hrel
    have Hbel := Lib.hid hbel
    have Hown := Lib.hid hown
    have hsz := hbel.size
    clear hbel hown
    by_cases hlt : k < n
    · obtain ⟨b, o, rfl, hc⟩ := HR.out.2 (by omega)
      have z1 := kept_cell Hbel.out (hc k hlt)
      have hb := Hr.out k hlt
      clear hc
      go_wp2_with (at_builtin; refine wpList_app1 rfl _ _ rfl elInt Hown.out rfl rfl rfl rfl (by omega) (by omega) ?_; intro v' w' hown' hbel' _)
      go_roundw
      case rel =>
        refine ⟨k + 1, by omega, by go_num, ?_, Hbel.out.trans hbel'⟩
        rw [mod16_take xs k (by rw [Hlen.out]; exact hlt), ints_append]
        exact hown'
      case measure => simp [intOf]; omega
    · obtain rfl : k = n := by omega
      go_wp2
      go_ret
      have h1 := Hown.out
      rw [List.take_of_length_le (by rw [Hlen.out]; exact Nat.le_refl _)] at h1
      exact ⟨_, rfl, h1, Hbel.out⟩
set_option maxHeartbeats 2000000 in
theorem CodesFew_calls (A : Option Addr) (len cap : Nat) (xs : List Int) (x n : Int) (w : World) (hR : Rd w .u8 A len xs) (hr : ∀ j, j < len → 0 ≤ rd xs j ∧ rd xs j ≤ 255) (hlen : len ≤ 140737488351232) (hx : 0 ≤ x) (hx2 : x ≤ 255) (hn : 0 ≤ n) (hn2 : n ≤ 65535) :
    Calls Try.prog 5 #[.slice A len cap, .int .u8 x, .int .u16 n] w fun e w' => e = .returned (.bool true) ∧ Below w.heap.size w w' := by
  have HR := Lib.hid hR
  have Hr := Lib.hid hr
  clear hR hr
  obtain ⟨q, hq⟩ : ∃ q : Nat, n % 400 = q := ⟨(n % 400).toNat, by omega⟩
  have hq2 : q < 400 := by omega
  by_cases hl : len ≤ 500
  · go_enter Try.func5, Try.ntmps5
    go_wp2_with fail
    refine (awake8_calls _).mono ?_
    rintro e w1 ⟨rfl, hb1⟩
    have Hb1 := Lib.hid hb1
    have hs1 := hb1.size
    clear hb1
    go_wp2_with (at_make; refine wpList_mk1 _ rfl _ _ rfl elInt rfl rfl hq hq (by omega) (Nat.le_refl _) ?_; intro w2 hown2 hb2 hsz2)
    have Hown2 := Lib.hid hown2
    have Hb2 := Lib.hid (below_seq Hb1.out (Nat.le_refl _) hb2)
    have Hq := Lib.hid hq
    have HR2 := Lib.hid (HR.out.below (Hb2.out.mono (Nat.le_refl _)))
    have hs2 := Hb2.out.size
    clear hown2 hb2 Hb1
    go_loopw [9] (fun i wr => ∃ (k : Nat) (l : List Int), k ≤ q ∧ i = .int .i64 k ∧ wr.ownsRow w1.heap.size 3 1 (.slice (some ⟨w1.heap.size, 0, none⟩) q q) q (ints .i64 l) ∧ Hid (∀ j, j < q → rd l j = if j < k then x % 16 else 0) ∧ Below w.heap.size w wr ∧ w1.heap.size ≤ wr.heap.size) (fun i _ => q - (intOf i).toNat)
    case atStart => exact ⟨0, List.replicate q 0, by omega, rfl, Hown2.out, (fun j hj => by rw [rd_getElem (by simp; exact hj)]; simp), Hb2.out, by omega⟩
    case round =>
      obtain ⟨k, l, hk, rfl, hown, Hl, hbel, hsz⟩ := hrel
      have Hown := Lib.hid hown
      have Hbel := Lib.hid hbel
      have hll : l.length = q := by have := hown.1; simpa [ints] using this
      clear hown hbel
      by_cases hlt : k < q
      · have hst := Hown.out.stored k (.int .i64 (x % 16))
        have hf := Hown.out.frozenAt k
        have hcell := Hown.out.cellAt k (by omega)
        rw [ints_get (by omega)] at hcell
        have Hst := Lib.hid hst.1
        clear hst
        go_wp2
        go_roundw
        case rel =>
          refine ⟨k + 1, l.set k (x % 16), by omega, by go_num, by rw [ints_set]; exact Hst.out, ?_, Hbel.out.setCell (by simp; omega) _, by simp; omega⟩
          intro j hj
          rw [rd_set (by omega), Hl.out j hj]
          split <;> split <;> first | rfl | omega | (split <;> first | rfl | omega)
        case measure => simp [intOf]; omega
      · obtain rfl : k = q := by omega
        obtain ⟨A2, c2, he2, _, hR2⟩ := own_rd Hown.out
        cases he2
        have HRq := Lib.hid hR2
        have Hll := Lib.hid hll
        clear hR2 hll
        go_wp2_with fail
        refine (right8_calls A len cap xs _ (HR.out.below (Hbel.out.mono (Nat.le_refl _))) Hr.out (by omega)).mono ?_
        rintro e w3 ⟨v3, rfl, hown3, hb3⟩
        obtain ⟨A3, c3, rfl, _, hR3⟩ := own_rd hown3
        have Hb3 := Lib.hid (below_seq Hbel.out (Nat.le_refl _) hb3)
        have HRq3 := Lib.hid (HRq.out.below hb3)
        have HR3 := Lib.hid hR3
        have hs3 := hb3.size
        clear hown3 hb3 hR3
        go_wp2_with fail
        refine (Press_calls A3 len c3 _ _ HR3.out (by omega)).mono ?_
        rintro e w4 ⟨v4, rfl, hown4, hb4⟩
        obtain ⟨A4, c4, rfl⟩ := own_slice hown4
        have Hb4 := Lib.hid (below_seq Hb3.out (Nat.le_refl _) hb4)
        have HRq4 := Lib.hid (HRq3.out.below hb4)
        have le4 : (items (mod16 xs)).length ≤ len := by
          have := items_le (mod16 xs)
          rw [mod16_length, HR.out.1] at this
          exact this
        generalize (items (mod16 xs)).length = n4 at *
        have hs4 := hb4.size
        clear hown4 hb4 HRq3 HR3 HRq
        go_wp2_with fail
        refine (Press_calls _ k k _ _ HRq4.out (by omega)).mono ?_
        rintro e w5 ⟨v5, rfl, hown5, hb5⟩
        obtain ⟨A5, c5, rfl⟩ := own_slice hown5
        have Hb5 := Lib.hid (below_seq Hb4.out (Nat.le_refl _) hb5)
        have le5 : (items l).length ≤ 4 + k / 6 := by
          have := items_few l (x % 16) (fun j hj => by rw [Hll.out] at hj; rw [Hl.out j hj, if_pos hj])
          rw [Hll.out] at this
          exact this
        generalize (items l).length = n5 at *
        clear hown5 hb5 HRq4
        have e1 : ((n4 : Nat) : Int) ≤ len := by omega
        have e2 : ((n5 : Nat) : Int) ≤ 4 + (k : Int) / 6 := by omega
        go_wp2
        go_ret
        exact ⟨by first | rfl | (simp; done) | (simp; omega), Hb5.out⟩
  · go_enter Try.func5, Try.ntmps5
    go_wp2_with fail
    refine (awake8_calls _).mono ?_
    rintro e w1 ⟨rfl, hb1⟩
    have Hb1 := Lib.hid hb1
    clear hb1
    go_wp2_with fail
    refine (awake8_calls _).mono ?_
    rintro e w2 ⟨rfl, hb2⟩
    have Hb2 := Lib.hid (below_seq Hb1.out (Nat.le_refl _) hb2)
    clear hb2
    go_wp2
    go_ret
    exact ⟨rfl, Hb2.out⟩
theorem CodesFew_walk (A : Option Addr) (len cap : Nat) (z : List Int) (x n : Int) (w : World) (h1 : IsRow .u8 w A len cap z) (h2 : len * 1 ≤ 140737488351232) (h3 : (Lit.int .u8 x).wf = true) (h4 : (Lit.int .u16 n).wf = true) :
    Calls Try.prog 5 #[.slice A len cap, .int .u8 x, .int .u16 n] w fun e w' => e = .returned (.bool true) ∧ Below w.heap.size w w' :=
  CodesFew_calls A len cap _ x n w h1.rd h1.u8 (by omega) (u8_of_wf h3).1 (u8_of_wf h3).2 (u16_of_wf h4).1 (u16_of_wf h4).2
end Go.Proofs.Ytempgkglhgelkaa
