/-
  The walk of the document's Right (inkwellref05).
-/
import Derived.Test.YtempgkglhgelkaaHuffQ
import Derived.Test.YtempgkglhgelkaaC
import Derived.IntWalk
import Derived.BigQuiet
namespace Go.Proofs.Ytempgkglhgelkaa
open Go.RowKit

theorem shr_len : ∀ k : Nat, k ≤ 15 → (32768 : Int) / 2 ^ k = 2 ^ (15 - k) := by decide +kernel
theorem lensOk_cell {xs : List Int} (s : Nat) (hs : s < xs.length) (h : ¬ (0 ≤ rd xs s ∧ rd xs s ≤ 15)) : lensOk xs = false := by
  unfold lensOk
  rw [List.all_eq_false]
  exact ⟨xs[s], List.getElem_mem _, by rw [← rd_getElem hs]; simpa using h⟩
theorem befores_le (xs : List Int) (s j : Nat) : 0 ≤ befores xs s j ∧ befores xs s j ≤ s := by
  have := before_le xs j s
  unfold befores
  omega
theorem pow_15_le : ∀ k : Nat, k ≤ 15 → (0 : Int) ≤ 2 ^ (15 - k) ∧ (2 : Int) ^ (15 - k) ≤ 32768 := by decide +kernel
set_option maxHeartbeats 1000000 in
set_option maxRecDepth 100000 in
theorem refRight_calls (A : Option Addr) (n cap : Nat) (xs : List Int) (w : World) (hR : Rd w .i64 A n xs) (hn : n ≤ 1000000) :
    Calls Try.prog 23 #[.slice A n cap] w fun e w' => e = .returned (.bool (rightB xs)) ∧ Below w.heap.size w w' := by
  have HR := Lib.hid hR
  have hlen := Lib.hid hR.1
  have Heq := Lib.hid (rightR_eq xs)
  clear hR
  go_enter Try.func23, Try.ntmps23
  go_wp2
  go_loop [3, 4, 5, 6] (fun a b c i => ∃ s : Nat, s ≤ n ∧ i = .int .i64 s ∧ a = .int .i64 (sumR xs s) ∧ b = .int .i64 (manyR xs s) ∧ c = .int .i64 (befores xs s 1) ∧ Hid (lensOk (xs.take s) = true) ∧ 0 ≤ sumR xs s ∧ sumR xs s ≤ 32768 * s ∧ 0 ≤ manyR xs s ∧ manyR xs s ≤ s) (fun _ _ _ i => n - (intOf i).toNat)
  case atStart => exact ⟨0, by omega, rfl, by rw [sumR_start], by rw [manyR_start], by unfold befores; rw [before_zero]; rfl, rfl, by rw [sumR_start]; omega, by rw [sumR_start]; omega, by rw [manyR_start]; omega, by rw [manyR_start]; omega⟩
  case round =>
    obtain ⟨s, hs, rfl, rfl, rfl, rfl, Hok, g1, g2, g3, g4⟩ := hrel
    have hbf := befores_le xs s 1
    by_cases hlt : s < n
    · obtain ⟨b, o, rfl, hcx⟩ := HR.out.2 (by omega)
      have z := hcx s hlt
      clear hcx
      have hlt' : s < xs.length := by rw [hlen.out]; exact hlt
      by_cases hx : 0 ≤ rd xs s ∧ rd xs s ≤ 15
      · obtain ⟨k, hk⟩ : ∃ k : Nat, rd xs s = k := ⟨(rd xs s).toNat, by omega⟩
        have hok2 : Hid (lensOk (xs.take (s + 1)) = true) := by
          show lensOk _ = true
          have h1 : lensOk (xs.take s) = true := Hok.out
          rw [List.take_succ_eq_append_getElem hlt']
          unfold lensOk at *
          rw [List.all_append, h1, ← rd_getElem hlt', hk]
          simp
          omega
        have hb := befores_next xs s k hlt' hk 1
        rw [hk] at z hx
        by_cases h0 : k = 0
        · subst h0
          have e1 := Lib.hid (sumR_zero xs s hlt' hk)
          have e2 := Lib.hid (manyR_zero xs s hlt' hk)
          have e3 : Hid (befores xs (s + 1) 1 = befores xs s 1) := by show befores xs (s + 1) 1 = _; rw [hb, if_neg (by omega), Int.add_zero]
          clear hb hk hx
          go_wp2
          go_round
          case rel => exact ⟨s + 1, by omega, by go_num, by rw [e1.out], by rw [e2.out], by rw [e3.out], hok2, by rw [e1.out]; exact g1, by rw [e1.out]; omega, by rw [e2.out]; exact g3, by rw [e2.out]; omega⟩
          case measure => simp [intOf]; omega
        · have hk0 : 0 < k := by omega
          have e1 := Lib.hid (sumR_next xs s k hlt' hk hk0 (by omega))
          have e2 := Lib.hid (manyR_next xs s k hlt' hk hk0 (by omega))
          have hp := pow_15_le k (by omega)
          have hsh := shr_len k (by omega)
          by_cases h1 : k = 1
          · subst h1
            have e3 : Hid (befores xs (s + 1) 1 = befores xs s 1 + 1) := hb
            clear hb hk hx
            rw [show ((2 : Int) ^ (15 - 1)) = 16384 from by decide +kernel] at e1
            go_wp2
            go_round
            case rel => exact ⟨s + 1, by omega, by go_num, by rw [e1.out], by rw [e2.out], by rw [e3.out], hok2, by rw [e1.out]; omega, by rw [e1.out]; omega, by rw [e2.out]; omega, by rw [e2.out]; omega⟩
            case measure => simp [intOf]; omega
          · have e3 : Hid (befores xs (s + 1) 1 = befores xs s 1) := by show befores xs (s + 1) 1 = _; rw [hb, if_neg (by omega), Int.add_zero]
            have h1' : ((k : Int) == 1) = false := by simp; omega
            clear hb hk
            go_wp2
            go_round
            case rel => exact ⟨s + 1, by omega, by go_num, by rw [e1.out], by rw [e2.out], by rw [e3.out], hok2, by rw [e1.out]; omega, by rw [e1.out]; omega, by rw [e2.out]; omega, by rw [e2.out]; omega⟩
            case measure => simp [intOf]; omega
      · have hno := lensOk_cell s hlt' hx
        have hr : rightB xs = false := by rw [← Heq.out]; unfold rightR; rw [hno, Bool.false_and]
        have Hr := Lib.hid hr
        have hways : rd xs s < 0 ∨ (0 ≤ rd xs s ∧ 15 < rd xs s) := by omega
        clear hx hno hr
        rcases hways with h1 | ⟨h1, h2⟩
        all_goals
          go_wp2
          go_ret
          exact ⟨by rw [Hr.out]; rfl, Below.refl _ _⟩
    · obtain rfl : s = n := by omega
      have hok : lensOk xs = true := by
        have h1 : lensOk (xs.take s) = true := Hok.out
        rwa [List.take_of_length_le (by rw [hlen.out]; exact Nat.le_refl _)] at h1
      have hfin : rightB xs = (sumR xs s == 32768 || (manyR xs s == 1 && befores xs s 1 == 1)) := by
        rw [← Heq.out]; unfold rightR; rw [hok, hlen.out, Bool.true_and]
      have Hfin := Lib.hid hfin
      clear hok hfin
      cases c1 : (sumR xs s == 32768)
      · cases c2 : (manyR xs s == 1)
        · go_wp2
          go_ret
          exact ⟨by rw [Hfin.out, c1, c2]; rfl, Below.refl _ _⟩
        · cases c3 : (befores xs s 1 == 1)
          all_goals
            go_wp2
            go_ret
            exact ⟨by rw [Hfin.out, c1, c2, c3]; rfl, Below.refl _ _⟩
      · go_wp2
        go_ret
        exact ⟨by rw [Hfin.out, c1]; rfl, Below.refl _ _⟩
end Go.Proofs.Ytempgkglhgelkaa
