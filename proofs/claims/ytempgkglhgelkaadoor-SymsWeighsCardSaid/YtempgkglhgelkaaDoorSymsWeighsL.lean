/-
  SymsWeighs: the law.
-/
import Derived.Test.YtempgkglhgelkaaDoorSymsWeighs
namespace Go.Proofs.YtempgkglhgelkaaDoor
open Go.RowKit

set_option maxHeartbeats 2000000 in
set_option maxRecDepth 100000 in
theorem SymsWeighs_calls (A : Option Addr) (n c : Nat) (ts : List Tok) (w : World) (hK : Toks w A n ts) (hn : n ≤ maxLen) (hwf : TokWf ts n) (hT : Tabs w) :
    Calls Tryd.prog 7 #[.slice A n c] w fun e w' => e = .returned (.bool true) ∧ Below w.heap.size w w' := by
  have HK := Lib.hid hK
  have Hwf := Lib.hid hwf
  have HT := Lib.hid hT
  unfold maxLen at hn
  clear hK hwf hT
  by_cases hl : n ≤ 500
  · go_enter Tryd.func7, Tryd.ntmps7
    go_wp2_with fail
    refine (awake_calls _ HT.out).mono ?_
    rintro e w1 ⟨rfl, hb1⟩
    have Hb1 := Lib.hid hb1
    clear hb1
    go_wp2
    go_loopw [3] (fun i wr => ∃ k : Nat, k ≤ n ∧ i = .int .i64 k ∧ Hid (∀ j, j < k → tokOk (tokL ts j) (tokB ts j) (tokD ts j) = true) ∧ Below w.heap.size w wr) (fun i _ => n - (intOf i).toNat)
    case atStart => exact ⟨0, by omega, rfl, (fun j hj => by omega), Hb1.out⟩
    case round =>
      obtain ⟨k, hk, rfl, Hok, hbel⟩ := hrel
      have Hbel := Lib.hid hbel
      clear hbel
      by_cases hlt : k < n
      · obtain ⟨b, o, rfl, hc⟩ := HK.out.2 (by omega)
        obtain ⟨z0, z1, z2⟩ := hc k hlt
        have z0 := kept_cell Hbel.out z0
        have z1 := kept_cell Hbel.out z1
        have z2 := kept_cell Hbel.out z2
        clear hc
        go_wp2_with fail
        refine (rRight_calls _ _ _ _).mono ?_
        rintro e w2 ⟨rfl, hb2⟩
        have Hb2 := Lib.hid (below_seq Hbel.out (Nat.le_refl _) hb2)
        clear hb2
        cases hok : tokOk (tokL ts k) (tokB ts k) (tokD ts k)
        · go_wp2
          go_ret
          exact ⟨rfl, Hb2.out⟩
        · go_wp2
          go_roundw
          case rel =>
            refine ⟨k + 1, by omega, by go_num, ?_, Hb2.out⟩
            intro j hj
            rcases Nat.lt_or_ge j k with h | h
            · exact Hok.out j h
            · rw [show j = k from by omega]; exact hok
          case measure => simp [intOf]; omega
      · obtain rfl : k = n := by omega
        go_wp2_with fail
        refine (Weights_calls A k c ts _ (HK.out.below (Hbel.out.mono (Nat.le_refl _))) hl Hwf.out Hok.out (HT.out.below Hbel.out)).mono ?_
        rintro e w3 ⟨ga, gb, la, lb, rfl, hA, hB, Hla, Hlb, hb3⟩
        have HA := Lib.hid hA
        have HB := Lib.hid hB
        have Hb3 := Lib.hid (below_seq Hbel.out (Nat.le_refl _) hb3)
        clear hA hB hb3
        go_wp2_with fail
        refine (rWeights_calls A k c ts _ (HK.out.below (Hb3.out.mono (Nat.le_refl _))) hl Hwf.out Hok.out).mono ?_
        rintro e w4 ⟨ha, hb, ma, mb, rfl, hA', hB', Hma, Hmb, hb4⟩
        have HA4 := Lib.hid (own_below HA.out hb4)
        have HB4 := Lib.hid (own_below HB.out hb4)
        have HA' := Lib.hid hA'
        have HB' := Lib.hid hB'
        have Hb4 := Lib.hid (below_seq Hb3.out (Nat.le_refl _) hb4)
        have l1 : la.length = 286 := by have := hA'.1; have h2 := HA.out.1; simpa [ints] using h2
        have l2 : ma.length = 286 := by have h2 := hA'.1; simpa [ints] using h2
        have l3 : lb.length = 30 := by have h2 := HB.out.1; simpa [ints] using h2
        have l4 : mb.length = 30 := by have h2 := hB'.1; simpa [ints] using h2
        clear hA' hB' hb4
        go_wp2
        go_loopw [8] (fun i wr => ∃ k : Nat, k ≤ 286 ∧ i = .int .i64 k ∧ Below w4.heap.size w4 wr) (fun i _ => 286 - (intOf i).toNat)
        case atStart => exact ⟨0, by omega, rfl, Below.refl _ _⟩
        case round =>
          obtain ⟨j, hj, rfl, hbi⟩ := hrel
          have Hbi := Lib.hid hbi
          clear hbi
          by_cases hlt2 : j < 286
          · have y1 := HA4.out.cellAt j (by omega)
            rw [ints_get (by omega), Hla.out j hlt2] at y1
            have y2 := HA'.out.cellAt j (by omega)
            rw [ints_get (by omega), Hma.out j hlt2] at y2
            have y1 := kept_cell Hbi.out y1
            have y2 := kept_cell Hbi.out y2
            generalize cntA ts j + (if 256 = j then 1 else 0) = v at *
            have t : (v != v) = false := by simp
            go_wp2
            go_quiet (fail)
            go_wp2
            go_roundw
            case rel => exact ⟨j + 1, by omega, by go_num, Hbi.out.trans ⟨rfl, rfl, rfl, Nat.le_refl _, fun _ _ => rfl⟩⟩
            case measure => simp [intOf]; omega
          · obtain rfl : j = 286 := by omega
            obtain ⟨wo, hwo⟩ : ∃ wo : World, wo = wr := ⟨_, rfl⟩
            subst hwo
            go_wp2
            go_loopw [9] (fun i wr => ∃ k : Nat, k ≤ 30 ∧ i = .int .i64 k ∧ Below w4.heap.size w4 wr) (fun i _ => 30 - (intOf i).toNat)
            case atStart => exact ⟨0, by omega, rfl, Hbi.out⟩
            case round =>
              obtain ⟨j, hj, rfl, hbi⟩ := hrel
              have Hbj := Lib.hid hbi
              clear hbi
              by_cases hlt2 : j < 30
              · have y1 := HB4.out.cellAt j (by omega)
                rw [ints_get (by omega), Hlb.out j hlt2] at y1
                have y2 := HB'.out.cellAt j (by omega)
                rw [ints_get (by omega), Hmb.out j hlt2] at y2
                have y1 := kept_cell Hbj.out y1
                have y2 := kept_cell Hbj.out y2
                generalize cntD ts j = v at *
                have t : (v != v) = false := by simp
                go_wp2
                go_quiet (fail)
                go_wp2
                go_roundw
                case rel => exact ⟨j + 1, by omega, by go_num, Hbj.out.trans ⟨rfl, rfl, rfl, Nat.le_refl _, fun _ _ => rfl⟩⟩
                case measure => simp [intOf]; omega
              · obtain rfl : j = 30 := by omega
                go_wp2
                go_ret
                exact ⟨rfl, below_seq Hb4.out (Nat.le_refl _) Hbj.out⟩
  · go_enter Tryd.func7, Tryd.ntmps7
    go_wp2_with fail
    refine (awake_calls _ HT.out).mono ?_
    rintro e w1 ⟨rfl, hb1⟩
    have Hb1 := Lib.hid hb1
    have T1 := Lib.hid (HT.out.below hb1)
    clear hb1
    go_wp2_with fail
    refine (awake_calls _ T1.out).mono ?_
    rintro e w2 ⟨rfl, hb2⟩
    have Hb2 := Lib.hid (below_seq Hb1.out (Nat.le_refl _) hb2)
    clear hb2
    go_wp2
    go_ret
    exact ⟨rfl, Hb2.out⟩
end Go.Proofs.YtempgkglhgelkaaDoor
