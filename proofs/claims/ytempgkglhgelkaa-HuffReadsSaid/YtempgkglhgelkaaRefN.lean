/-
  The walk of the reference's Next.
-/
import Derived.Test.YtempgkglhgelkaaNextP
import Derived.Test.YtempgkglhgelkaaHuffR
import Derived.Test.YtempgkglhgelkaaHuffD
namespace Go.Proofs.Ytempgkglhgelkaa
open Go.RowKit

set_option maxHeartbeats 2000000 in
set_option maxRecDepth 100000 in
theorem refNext_calls (A : Option Addr) (n cap : Nat) (xs : List Int) (B : Option Addr) (m d p : Nat) (ys bs : List Int) (w : World) (hR : Rd w .i64 A n xs) (hn : n ≤ 1000000) (hok : lensOk xs = true) (hB : Rd w .u8 B m ys) (hy : ∀ i, i < m → rd ys i = ((bitAt bs (p + i) : Nat) : Int)) (hm : m ≤ 10000000) :
    Calls Try.prog 29 #[.slice A n cap, .slice B m d] w fun e w' =>
      ((∃ s : Nat, Hit xs bs p m s ∧ e = .returned (.tuple #[.int .i64 s, .int .i64 (rd xs s)])) ∨ ((∀ s, ¬ Hit xs bs p m s) ∧ e = .returned (.tuple #[.int .i64 (-1), .int .i64 0]))) ∧ Below w.heap.size w w' := by
  have HR := Lib.hid hR
  have HB := Lib.hid hB
  have Hy := Lib.hid hy
  have hxl := Lib.hid hR.1
  have Hok := Lib.hid hok
  clear hR hB hy hok
  go_enter Try.func29, Try.ntmps29
  go_wp2_with fail
  refine (refCodes_calls A n cap xs _ HR.out hn).mono ?_
  rintro e w1 ⟨v1, rfl, ho1, hb1⟩
  obtain ⟨C1, c1, rfl, _, hc1⟩ := own_rd ho1
  have HR1 := Lib.hid (HR.out.below hb1)
  have HB1 := Lib.hid (HB.out.below hb1)
  have Hc1 := Lib.hid hc1
  have Hb1 := Lib.hid hb1
  clear ho1 hc1 hb1
  go_wp2
  go_loop [7] (fun i => ∃ k : Nat, k ≤ n ∧ i = .int .i64 k ∧ Hid (∀ t, t < k → ¬ Hit xs bs p m t)) (fun i => n - (intOf i).toNat)
  case atStart => exact ⟨0, by omega, rfl, fun t ht => by omega⟩
  case round =>
    obtain ⟨k, hk, rfl, Hno⟩ := hrel
    by_cases hlt : k < n
    · obtain ⟨b, o, rfl, hcx⟩ := HR1.out.2 (by omega)
      have z := hcx k hlt
      clear hcx
      have hrng := lensOk_at Hok.out k (by rw [hxl.out]; exact hlt)
      obtain ⟨L, hL⟩ : ∃ L : Nat, rd xs k = L := ⟨(rd xs k).toNat, by omega⟩
      rw [hL] at z hrng
      have HL := Lib.hid hL
      clear hL
      have next : Hid (¬ Hit xs bs p m k → ∀ t, t < k + 1 → ¬ Hit xs bs p m t) := fun h t ht => by
        by_cases e : t < k
        · exact Hno.out t e
        · rw [show t = k from by omega]; exact h
      by_cases h0 : L = 0
      · subst h0
        go_wp2
        go_round
        case rel => exact ⟨k + 1, by omega, by go_num, next.out (fun h => by have := h.2.1; rw [HL.out] at this; omega)⟩
        case measure => simp [intOf]; omega
      · have d0 : ((L : Int) == 0) = false := by simp; omega
        by_cases hLm : m < L
        · go_wp2
          go_round
          case rel => exact ⟨k + 1, by omega, by go_num, next.out (fun h => by have := h.2.2.2.1; rw [HL.out] at this; omega)⟩
          case measure => simp [intOf]; omega
        · go_wp2
          go_loop [9, 10] (fun c i => ∃ j : Nat, j ≤ L ∧ i = .int .i64 j ∧ c = .int .u64 (codeTo bs p j : Nat)) (fun _ i => L - (intOf i).toNat)
          case atStart => exact ⟨0, by omega, rfl, rfl⟩
          case round =>
            obtain ⟨j, hj, rfl, rfl⟩ := hrel
            by_cases hlt2 : j < L
            · obtain ⟨b2, o2, rfl, hc2⟩ := HB1.out.2 (by omega)
              have y := hc2 j (by omega)
              rw [Hy.out j (by omega)] at y
              clear hc2
              have hcl := codeTo_lt bs p j
              have hpow : (2 : Nat) ^ j ≤ 2 ^ 15 := Nat.pow_le_pow_right (by omega) (by omega)
              have hp15 : (2 : Nat) ^ 15 = 32768 := by decide
              have hcl2 : codeTo bs p j ≤ 32768 := by omega
              have hbt := bitAt_le bs (p + j)
              have hcode : codeTo bs p (j + 1) = 2 * codeTo bs p j + bitAt bs (p + j) := rfl
              obtain ⟨C, hC⟩ : ∃ C, C = codeTo bs p j := ⟨_, rfl⟩
              obtain ⟨D, hD⟩ : ∃ D, D = bitAt bs (p + j) := ⟨_, rfl⟩
              rw [← hC, ← hD] at hcode
              rw [← hC] at hcl2 ⊢
              rw [← hD] at y hbt
              have Hcode := Lib.hid hcode
              clear hcl hpow hp15 hC hD hcode
              go_wp2
              go_round
              case rel => exact ⟨j + 1, by omega, by go_num, by rw [Hcode.out]; go_num⟩
              case measure => simp [intOf]; omega
            · obtain rfl : j = L := by omega
              obtain ⟨b3, o3, rfl, hc3⟩ := Hc1.out.2 (by omega)
              have y := hc3 k hlt
              rw [rd_codesOf xs k (by rw [hxl.out]; exact hlt)] at y
              clear hc3
              have hit : Hid (((codeTo bs p j : Nat) : Int) = codeAt xs k ↔ Hit xs bs p m k) := by
                refine ⟨fun h => ⟨by rw [hxl.out]; exact hlt, by rw [HL.out]; omega, by rw [HL.out]; omega, by rw [HL.out]; omega, by rw [HL.out]; exact h⟩, fun h => ?_⟩
                have h5 := h.2.2.2.2
                rw [HL.out] at h5
                exact h5
              by_cases hcc : ((codeTo bs p j : Nat) : Int) = codeAt xs k
              · have hH := Lib.hid (hit.out.1 hcc)
                go_wp2
                refine bodyPost_ret (v := .tuple #[.int .i64 k, .int .i64 j]) (by simp [results, Try.results29, go_sem]) rfl ⟨.inl ⟨k, hH.out, by rw [HL.out]⟩, Hb1.out⟩
              · have hH := Lib.hid (fun h => hcc (hit.out.2 h))
                have d1 : (((codeTo bs p j : Nat) : Int) == codeAt xs k) = false := by simpa using hcc
                go_wp2
                go_round
                case rel => exact ⟨k + 1, by omega, by go_num, next.out hH.out⟩
                case measure => simp [intOf]; omega
    · obtain rfl : k = n := by omega
      go_wp2
      refine bodyPost_ret (v := .tuple #[.int .i64 (-1), .int .i64 0]) (by simp [results, Try.results29, go_sem]) rfl ⟨.inr ⟨fun s hs => Hno.out s (by have := hs.1; rw [hxl.out] at this; exact this) hs, rfl⟩, Hb1.out⟩
end Go.Proofs.Ytempgkglhgelkaa
