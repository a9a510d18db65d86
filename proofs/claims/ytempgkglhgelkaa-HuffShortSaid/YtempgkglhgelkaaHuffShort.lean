/-
  The walk of the law HuffShort.
-/
import Derived.Test.YtempgkglhgelkaaLaw5
import Derived.Test.YtempgkglhgelkaaHuffK
import Derived.Deep.RegionHeld3
namespace Go.Proofs.Ytempgkglhgelkaa
open Go.RowKit

theorem take_sum (ws : List Int) (k : Nat) (hk : k < ws.length) : (ws.take (k + 1)).sum = (ws.take k).sum + rd ws k := by
  rw [List.take_succ_eq_append_getElem hk, List.sum_append, ← rd_getElem hk]
  simp
set_option maxHeartbeats 4000000 in
set_option maxRecDepth 100000 in
theorem HuffShort_walk (most : Int) (a : Option Addr) (len cap : Nat) (zs : List Int) (w : World) (_hm : (Lit.int .i64 most).wf = true) (hz : IsRow .i64 w a len cap zs) (hlen : len * 8 ≤ 140737488351232) :
    Calls Try.prog 8 #[.int .i64 most, .slice a len cap] w fun e w' => e = .returned (.bool true) ∧ Below w.heap.size w w' := by
  obtain ⟨xs, hxs⟩ : ∃ xs, xs = zs.take len := ⟨_, rfl⟩
  have hR : Rd w .i64 a len xs := by rw [hxs]; exact hz.rd
  have HR := Lib.hid hR
  have HA := Lib.hid hz.nil
  clear hxs hz hR
  cases hf : fitsB most xs
  · go_enter Try.func8, Try.ntmps8
    have Hf := Lib.hid hf
    clear hf
    go_wp2_with fail
    refine (awake5_calls _).mono ?_
    rintro e w1 ⟨rfl, hb1⟩
    have H1 := Lib.hid hb1
    have HR1 := Lib.hid (HR.out.below hb1)
    clear hb1
    go_wp2_with fail
    refine (fits_calls most a len cap xs _ HR1.out (by omega)).mono ?_
    rintro e w2 ⟨rfl, rfl⟩
    rw [Hf.out]
    go_wp2_with fail
    refine (awake5_calls _).mono ?_
    rintro e w2 ⟨rfl, hb2⟩
    have H2 := Lib.hid (below_seq H1.out (Nat.le_refl _) hb2)
    clear hb2
    go_wp2
    go_ret
    exact ⟨rfl, H2.out⟩
  · have F := Lib.hid (Fits.of hf)
    have Hf := Lib.hid hf
    have hxl := Lib.hid HR.out.1
    have hln : len ≤ 300 := by have := F.out.len; rw [hxl.out] at this; exact this
    obtain ⟨m, rfl⟩ : ∃ m : Nat, most = m := ⟨most.toNat, by have := F.out.m; omega⟩
    have hm1 : 1 ≤ m := by have := F.out.m; omega
    have hm2 : m ≤ 15 := by have := F.out.m; omega
    have hfew : (posTo xs xs.length).length ≤ 2 ^ m := by have := F.out.few; rwa [Int.toNat_natCast] at this
    have hfew15 : (posTo xs xs.length).length ≤ 2 ^ 15 := Nat.le_trans hfew (Nat.pow_le_pow_right (by omega) hm2)
    obtain ⟨wt, e1, e2, e3, e4⟩ := lensOf_is hm1 F.out.wts hfew
    have hX : ∀ s, s < len → 0 ≤ rd (lensOf m xs) s ∧ rd (lensOf m xs) s ≤ m ∧ (0 < rd (lensOf m xs) s ↔ 0 < rd xs s) := fun s hs => by
      rw [e1]
      have h1 := onceM_pos wt s (by rw [e2, hxl.out]; exact hs)
      refine ⟨h1.1, ?_, h1.2.trans (e3 s)⟩
      rw [rd_getElem (by rw [onceM_length, e2, hxl.out]; exact hs)]
      exact e4 _ (List.getElem_mem _)
    have HX := Lib.hid hX
    have hright : 0 < (posTo xs xs.length).length → rightB (lensOf m xs) = true := fun h => by
      rw [e1]
      refine rightB_once wt (by rw [e2, posTo_same e3]; exact h) (fun x hx => ?_)
      have := e4 x hx
      omega
    have Hright := Lib.hid hright
    have HXl := Lib.hid ((lensOf_length m xs).trans hxl.out)
    have HYl := Lib.hid ((lensOf_length 15 xs).trans hxl.out)
    have Hw : Hid (∀ s, s < len → 0 ≤ rd xs s ∧ rd xs s ≤ 1073741824) := fun s hs => by
      rw [rd_getElem (by rw [hxl.out]; exact hs)]
      exact ⟨F.out.wts _ (List.getElem_mem _), F.out.top _ (List.getElem_mem _)⟩
    have Hfew := Lib.hid hfew
    have Hfew15 := Lib.hid hfew15
    clear hf hfew hfew15 hX hright e1 e2 e3 e4
    go_enter Try.func8, Try.ntmps8
    go_wp2_with fail
    refine (awake5_calls _).mono ?_
    rintro e w1 ⟨rfl, hb1⟩
    have H1 := Lib.hid hb1
    have HR1 := Lib.hid (HR.out.below hb1)
    clear hb1
    go_wp2_with fail
    refine (fits_calls m a len cap xs _ HR1.out (by omega)).mono ?_
    rintro e w2 ⟨rfl, rfl⟩
    rw [Hf.out]
    go_wp2_with fail
    refine (Lengths_calls m a len cap xs _ hm1 HR1.out HA.out (by omega) F.out.wts F.out.sum Hfew.out).mono ?_
    rintro e w4 ⟨v4, rfl, ho4, hb4⟩
    have H4 := Lib.hid (below_seq H1.out (Nat.le_refl _) hb4)
    have HR4 := Lib.hid (HR1.out.below hb4)
    obtain ⟨A4, c4, rfl, hc4, hR4⟩ := own_rd ho4
    have K4 := Lib.hid hR4
    clear hb4 hR4 ho4
    go_wp2_with fail
    refine (Lengths_calls 15 a len cap xs _ (by omega) HR4.out HA.out (by omega) F.out.wts F.out.sum Hfew15.out).mono ?_
    rintro e w5 ⟨v5, rfl, ho5, hb5⟩
    have H5 := Lib.hid (below_seq H4.out (Nat.le_refl _) hb5)
    have HR5 := Lib.hid (HR4.out.below hb5)
    have K5 := Lib.hid (K4.out.below hb5)
    obtain ⟨A5, c5, rfl, hc5, hR5⟩ := own_rd ho5
    have M5 := Lib.hid hR5
    clear hb5 hR5 ho5
    obtain ⟨X, hX⟩ : ∃ X, X = lensOf m xs := ⟨_, rfl⟩
    obtain ⟨Y, hY⟩ : ∃ Y, Y = lensOf 15 xs := ⟨_, rfl⟩
    rw [← hX] at K5 HX HXl Hright
    rw [← hY] at M5 HYl
    have HXe := Lib.hid hX
    have HYe := Lib.hid hY
    clear hX hY K4
    go_wp2
    go_loopw [7, 8, 9] (fun sm lg i wr => ∃ (k : Nat) (bb : Bool) (g : Int), k ≤ len ∧ i = .int .i64 k ∧ sm = .bool bb ∧ lg = .int .i64 g ∧ Hid (bb = true ↔ 0 < (posTo xs k).length) ∧ Hid (∀ j, j < k → rd Y j ≤ g) ∧ Hid (Below w5.heap.size w5 wr)) (fun _ _ i _ => len - (intOf i).toNat)
    case atStart => exact ⟨0, false, 0, by omega, rfl, rfl, rfl, Lib.hid (by simp [posTo]), fun j hj => by omega, Below.refl _ _⟩
    case round =>
      obtain ⟨k, bb, g, hk, rfl, rfl, rfl, Hbb, Hg, Hk⟩ := hrel
      by_cases hlt : k < len
      · obtain ⟨b, o, rfl, hc⟩ := (HR5.out.below Hk.out).2 (by omega)
        obtain ⟨b4, o4, rfl, hc4'⟩ := (K5.out.below Hk.out).2 (by omega)
        obtain ⟨b5, o5, rfl, hc5'⟩ := (M5.out.below Hk.out).2 (by omega)
        have x := hc4' k hlt
        have y := hc k hlt
        have z := hc5' k hlt
        obtain ⟨q1, q2, q3⟩ := HX.out k hlt
        have qw := Hw.out k hlt
        have Hp1 : Hid (0 < rd xs k → (posTo xs (k + 1)).length = (posTo xs k).length + 1) := fun h => by rw [posTo_hit h, List.length_append]; rfl
        have Hp2 : Hid (¬ 0 < rd xs k → (posTo xs (k + 1)).length = (posTo xs k).length) := fun h => by rw [posTo_miss h]
        have Hgn : Hid (∀ g', g ≤ g' → rd Y k ≤ g' → ∀ j, j < k + 1 → rd Y j ≤ g') := fun g' h1 h2 j hj => by
          by_cases e : j < k
          · have := Hg.out j e
            omega
          · rw [show j = k from by omega]; exact h2
        clear hc hc4' hc5'
        rcases Int.lt_or_le 0 (rd xs k) with hp | hp
        · have hxp := q3.2 hp
          have d1 : (rd X k == 0) = false := beq_eq_false_iff_ne.2 (by omega)
          have d2 : (rd xs k == 0) = false := beq_eq_false_iff_ne.2 (by omega)
          have d3 : decide ((m : Int) < rd X k) = false := decide_eq_false (by omega)
          have d4 : decide (rd X k < 0) = false := decide_eq_false (by omega)
          clear q3
          go_wp2
          go_region_held3 (fun W => W.cell? ⟨b4, o4 + k, none⟩ = some (.int .i64 (rd X k)) ∧ W.cell? ⟨b, o + k, none⟩ = some (.int .i64 (rd xs k)) ∧ W.cell? ⟨b5, o5 + k, none⟩ = some (.int .i64 (rd Y k))) (exact ⟨x, y, z⟩) (fail)
          rename_i hh
          obtain ⟨x2, y2, z2⟩ := hh
          cases bb
          all_goals
            go_wp2
            all_goals
              go_roundw
              case rel =>
                refine ⟨k + 1, _, _, by omega, by go_num, rfl, rfl, ?_, ?_, Hk.out.drew⟩
                · rw [show (posTo xs (k + 1)).length = (posTo xs k).length + 1 from Hp1.out hp]
                  exact Lib.hid ⟨fun _ => Nat.succ_pos _, fun _ => rfl⟩
                · exact Hgn.out _ (by omega) (by omega)
              case measure => simp [intOf]; omega
        · have hx0 : rd X k = 0 := by
            have : ¬ 0 < rd X k := fun h => by have := q3.1 h; omega
            omega
          have hw0 : rd xs k = 0 := by omega
          have Hn2 := Lib.hid (Hp2.out (by omega))
          rw [hx0] at x
          rw [hw0] at y
          have d3 : decide ((m : Int) < 0) = false := decide_eq_false (by omega)
          clear q1 q2 q3 qw hp hx0 hw0
          go_wp2
          go_region_held3 (fun W => W.cell? ⟨b4, o4 + k, none⟩ = some (.int .i64 0) ∧ W.cell? ⟨b, o + k, none⟩ = some (.int .i64 0) ∧ W.cell? ⟨b5, o5 + k, none⟩ = some (.int .i64 (rd Y k))) (exact ⟨x, y, z⟩) (fail)
          rename_i hh
          obtain ⟨x2, y2, z2⟩ := hh
          cases bb
          all_goals
            go_wp2
            all_goals
              go_roundw
              case rel =>
                refine ⟨k + 1, _, _, by omega, by go_num, rfl, rfl, ?_, ?_, Hk.out.drew⟩
                · have h9 := Hbb.out
                  rw [Hn2.out]
                  exact Lib.hid h9
                · exact Hgn.out _ (by omega) (by omega)
              case measure => simp [intOf]; omega
      · obtain rfl : k = len := by omega
        cases bb
        · go_wp2
          go_ret
          exact ⟨rfl, below_seq H5.out (Nat.le_refl _) Hk.out⟩
        · have hpos : 0 < (posTo xs xs.length).length := by rw [hxl.out]; exact Hbb.out.1 rfl
          have Hr := Lib.hid (Hright.out hpos)
          have H6 := Lib.hid (below_seq H5.out (Nat.le_refl _) Hk.out)
          have HR6 := Lib.hid (HR5.out.below Hk.out)
          have K6 := Lib.hid (K5.out.below Hk.out)
          have M6 := Lib.hid (M5.out.below Hk.out)
          clear hpos
          go_wp2_with fail
          refine (Right_calls A4 k c4 X _ K6.out (by omega)).mono ?_
          rintro e w7 ⟨rfl, hb7⟩
          rw [Hr.out]
          have H7 := Lib.hid (below_seq H6.out (Nat.le_refl _) hb7)
          have HR7 := Lib.hid (HR6.out.below hb7)
          have K7 := Lib.hid (K6.out.below hb7)
          have M7 := Lib.hid (M6.out.below hb7)
          clear hb7
          go_wp2
          go_loop [10, 11] (fun t i => ∃ (q : Nat) (s : Int), q ≤ k ∧ i = .int .i64 q ∧ t = .int .i64 s ∧ 0 ≤ s ∧ s ≤ 2000 * q ∧ Hid (s < 2000 → (xs.take q).sum = s)) (fun _ i => k - (intOf i).toNat)
          case atStart => exact ⟨0, 0, by omega, rfl, rfl, by omega, by omega, fun _ => by simp⟩
          case round =>
            obtain ⟨q, s, hq, rfl, rfl, hs0, hs1, Hs⟩ := hrel
            by_cases hqk : q < k
            · obtain ⟨b, o, rfl, hc⟩ := HR7.out.2 (by omega)
              have y := hc q hqk
              have qw := Hw.out q hqk
              have Hts := Lib.hid (take_sum xs q (by rw [hxl.out]; exact hqk))
              clear hc
              go_wp2
              all_goals
                go_round
                case rel =>
                  refine ⟨q + 1, _, by omega, by go_num, rfl, by omega, by omega, fun h => ?_⟩
                  first
                  | (exfalso; omega)
                  | (rw [Hts.out, Hs.out (by omega)]; try omega)
                case measure => simp [intOf]; omega
            · obtain rfl : q = k := by omega
              have HsX : Hid (s < 2000 → g ≤ m → X = onceM xs ∧ Y = onceM xs) := fun h1 h2 => by
                have hsum : xs.sum < 2584 := by
                  have := Hs.out h1
                  rw [List.take_of_length_le (by rw [hxl.out]; exact Nat.le_refl _)] at this
                  omega
                have h15 := onceM_15 xs F.out.wts hsum
                have hYo : lensOf 15 xs = onceM xs := lensOf_once (m := 15) h15
                have hYY : Y = onceM xs := HYe.out.trans hYo
                refine ⟨HXe.out.trans (lensOf_once (fun x hx => ?_)), hYY⟩
                rw [← hYY] at hx
                obtain ⟨j, hj, e⟩ := List.getElem_of_mem hx
                have := Hg.out j (by rw [HYl.out] at hj; exact hj)
                rw [rd_getElem hj, e] at this
                omega
              rcases Int.lt_or_le (m : Int) g with hgm | hgm
              · go_wp2
                go_ret
                exact ⟨rfl, H7.out⟩
              · rcases Int.lt_or_le s 2000 with hst | hst
                · obtain ⟨hXo, hYo⟩ := HsX.out hst hgm
                  have Hmono : Hid (∀ i j, i < q → j < q → 0 < rd xs j → rd xs j < rd xs i → rd X i ≤ rd X j) := fun i j hi hj h1 h2 => by
                    rw [hXo]
                    exact onceM_mono xs i j (by rw [hxl.out]; exact hi) (by rw [hxl.out]; exact hj) h1 h2
                  have HXY := Lib.hid (hXo.trans hYo.symm)
                  clear hXo hYo
                  go_wp2
                  go_loopw [12] (fun i wr => ∃ u : Nat, u ≤ q ∧ i = .int .i64 u ∧ Hid (Below w7.heap.size w7 wr)) (fun i _ => q - (intOf i).toNat)
                  case atStart => exact ⟨0, by omega, rfl, Below.refl _ _⟩
                  case round =>
                    obtain ⟨u, hu, rfl, Hu⟩ := hrel
                    by_cases huq : u < q
                    · go_wp2
                      go_loopw [13] (fun i wy => ∃ t : Nat, t ≤ q ∧ i = .int .i64 t ∧ Hid (Below w7.heap.size w7 wy)) (fun i _ => q - (intOf i).toNat)
                      case atStart => exact ⟨0, by omega, rfl, Hu.out⟩
                      case round =>
                        obtain ⟨t, ht, rfl, Ht⟩ := hrel
                        by_cases htq : t < q
                        · obtain ⟨b, o, rfl, hc⟩ := (HR7.out.below Ht.out).2 (by omega)
                          obtain ⟨b4, o4, rfl, hc4'⟩ := (K7.out.below Ht.out).2 (by omega)
                          have yu := hc u huq
                          have yt := hc t htq
                          have xu := hc4' u huq
                          have xt := hc4' t htq
                          have hmm := Hmono.out u t huq htq
                          obtain ⟨wu, hwu⟩ : ∃ v, v = rd xs u := ⟨_, rfl⟩
                          obtain ⟨wv, hwv⟩ : ∃ v, v = rd xs t := ⟨_, rfl⟩
                          obtain ⟨lu, hlu⟩ : ∃ v, v = rd X u := ⟨_, rfl⟩
                          obtain ⟨lt', hlt'⟩ : ∃ v, v = rd X t := ⟨_, rfl⟩
                          rw [← hwu] at yu hmm
                          rw [← hwv] at yt hmm
                          rw [← hlu] at xu hmm
                          rw [← hlt'] at xt hmm
                          clear hc hc4' hwu hwv hlu hlt'
                          rcases Int.lt_or_le wv wu with g1 | g1
                          · rcases Int.lt_or_le 0 wv with g2 | g2
                            · have g3 := hmm g2 g1
                              have d1 : decide (wv < wu) = true := decide_eq_true g1
                              have d2 : decide (0 < wv) = true := decide_eq_true g2
                              have d3 : decide (lt' < lu) = false := decide_eq_false (by omega)
                              clear hmm
                              go_wp2
                              refine wp_region_noPanic ?_
                              refine wp_region_held_drew (S := fun W => W.cell? ⟨b, o + u, none⟩ = some (.int .i64 wu) ∧ W.cell? ⟨b, o + t, none⟩ = some (.int .i64 wv) ∧ W.cell? ⟨b4, o4 + u, none⟩ = some (.int .i64 lu) ∧ W.cell? ⟨b4, o4 + t, none⟩ = some (.int .i64 lt')) (by kernel_rfl) (⟨yu, yt, xu, xt⟩) (fun hHeld => ?_)
                              refine' wpAnyH_take (i := 0) (oi := ⟨_, _, _, _, _, _⟩) (v := _) rfl (by kernel_rfl) (by kernel_rfl) (by kernel_rfl) (fun _ _ _ h => h) (Or.inl ⟨by rfl, ?hyA0⟩) (by assumption) ?restA0
                              case hyA0 => (intro w hSw; (try dsimp only at hSw); go_simp; try with_reducible rfl)
                              try simp only [Act.put, List.setIfInBounds_toArray, List.set_cons_zero, List.set_cons_succ]
                              refine' wpAnyH_take (i := 1) (oi := ⟨_, _, _, _, _, _⟩) (v := _) rfl (by kernel_rfl) (by kernel_rfl) (by kernel_rfl) (fun _ _ _ h => h) (Or.inl ⟨by rfl, ?hyA1⟩) (by assumption) ?restA1
                              case hyA1 => (intro w hSw; (try dsimp only at hSw); go_simp; try with_reducible rfl)
                              try simp only [Act.put, List.setIfInBounds_toArray, List.set_cons_zero, List.set_cons_succ]
                              refine' wpAnyH_take (i := 2) (oi := ⟨_, _, _, _, _, _⟩) (v := _) rfl (by kernel_rfl) (by kernel_rfl) (by kernel_rfl) (fun _ _ _ h => h) (Or.inl ⟨by rfl, ?hyA2⟩) (by assumption) ?restA2
                              case hyA2 => (intro w hSw; (try dsimp only at hSw); go_simp; try with_reducible rfl)
                              try simp only [Act.put, List.setIfInBounds_toArray, List.set_cons_zero, List.set_cons_succ]
                              refine' wpAnyH_take (i := 3) (oi := ⟨_, _, _, _, _, _⟩) (v := _) rfl (by kernel_rfl) (by kernel_rfl) (by kernel_rfl) (fun _ _ _ h => h) (Or.inl ⟨by rfl, ?hyA3⟩) (by assumption) ?restA3
                              case hyA3 => (intro w hSw; (try dsimp only at hSw); go_simp; try with_reducible rfl)
                              try simp only [Act.put, List.setIfInBounds_toArray, List.set_cons_zero, List.set_cons_succ]
                              refine' wpAnyH_take (i := 4) (oi := ⟨_, _, _, _, _, _⟩) (v := _) rfl (by kernel_rfl) (by kernel_rfl) (by kernel_rfl) (fun _ _ _ h => h) (Or.inl ⟨by rfl, ?hyA4⟩) (by assumption) ?restA4
                              case hyA4 => (intro w hSw; (try dsimp only at hSw); go_simp; try with_reducible rfl)
                              try simp only [Act.put, List.setIfInBounds_toArray, List.set_cons_zero, List.set_cons_succ]
                              refine' wpAnyH_take (i := 5) (oi := ⟨_, _, _, _, _, _⟩) (v := _) rfl (by kernel_rfl) (by kernel_rfl) (by kernel_rfl) (fun _ _ _ h => h) (Or.inl ⟨by rfl, ?hyA5⟩) (by assumption) ?restA5
                              case hyA5 => (intro w hSw; (try dsimp only at hSw); go_simp; try with_reducible rfl)
                              try simp only [Act.put, List.setIfInBounds_toArray, List.set_cons_zero, List.set_cons_succ]
                              refine' wpAnyH_take (i := 6) (oi := ⟨_, _, _, _, _, _⟩) (v := _) rfl (by kernel_rfl) (by kernel_rfl) (by kernel_rfl) (fun _ _ _ h => h) (Or.inl ⟨by rfl, ?hyA6⟩) (by assumption) ?restA6
                              case hyA6 => (intro w hSw; (try dsimp only at hSw); go_simp; try with_reducible rfl)
                              try simp only [Act.put, List.setIfInBounds_toArray, List.set_cons_zero, List.set_cons_succ]
                              refine' wpAnyH_take (i := 7) (oi := ⟨_, _, _, _, _, _⟩) (v := _) rfl (by kernel_rfl) (by kernel_rfl) (by kernel_rfl) (fun _ _ _ h => h) (Or.inl ⟨by rfl, ?hyA7⟩) (by assumption) ?restA7
                              case hyA7 => (intro w hSw; (try dsimp only at hSw); go_simp; try with_reducible rfl)
                              try simp only [Act.put, List.setIfInBounds_toArray, List.set_cons_zero, List.set_cons_succ]
                              refine' wpAnyH_take (i := 8) (oi := ⟨_, _, _, _, _, _⟩) (v := _) rfl (by kernel_rfl) (by kernel_rfl) (by kernel_rfl) (fun _ _ _ h => h) (Or.inl ⟨by rfl, ?hyA8⟩) (by assumption) ?restA8
                              case hyA8 => (intro w hSw; (try dsimp only at hSw); go_simp; try with_reducible rfl)
                              try simp only [Act.put, List.setIfInBounds_toArray, List.set_cons_zero, List.set_cons_succ]
                              refine' wpAnyH_take (i := 9) (oi := ⟨_, _, _, _, _, _⟩) (v := _) rfl (by kernel_rfl) (by kernel_rfl) (by kernel_rfl) (fun _ _ _ h => h) (Or.inl ⟨by rfl, ?hyA9⟩) (by assumption) ?restA9
                              case hyA9 => (intro w hSw; (try dsimp only at hSw); go_simp; try with_reducible rfl)
                              try simp only [Act.put, List.setIfInBounds_toArray, List.set_cons_zero, List.set_cons_succ]
                              refine' wpAnyH_take (i := 10) (oi := ⟨_, _, _, _, _, _⟩) (v := _) rfl (by kernel_rfl) (by kernel_rfl) (by kernel_rfl) (fun _ _ _ h => h) (Or.inl ⟨by rfl, ?hyA10⟩) (by assumption) ?restA10
                              case hyA10 => (intro w hSw; (try dsimp only at hSw); go_simp; try with_reducible rfl)
                              try simp only [Act.put, List.setIfInBounds_toArray, List.set_cons_zero, List.set_cons_succ]
                              refine' wpAnyH_take (i := 11) (oi := ⟨_, _, _, _, _, _⟩) (v := _) rfl (by kernel_rfl) (by kernel_rfl) (by kernel_rfl) (fun _ _ _ h => h) (Or.inl ⟨by rfl, ?hyA11⟩) (by assumption) ?restA11
                              case hyA11 => (intro w hSw; (try dsimp only at hSw); go_simp; try with_reducible rfl)
                              try simp only [Act.put, List.setIfInBounds_toArray, List.set_cons_zero, List.set_cons_succ]
                              refine' wpAnyH_take (i := 12) (oi := ⟨_, _, _, _, _, _⟩) (v := _) rfl (by kernel_rfl) (by kernel_rfl) (by kernel_rfl) (fun _ _ _ h => h) (Or.inl ⟨by rfl, ?hyA12⟩) (by assumption) ?restA12
                              case hyA12 => (intro w hSw; (try dsimp only at hSw); go_simp; try with_reducible rfl)
                              try simp only [Act.put, List.setIfInBounds_toArray, List.set_cons_zero, List.set_cons_succ]
                              refine' wpAnyH_take (i := 13) (oi := ⟨_, _, _, _, _, _⟩) (v := _) rfl (by kernel_rfl) (by kernel_rfl) (by kernel_rfl) (fun _ _ _ h => h) (Or.inl ⟨by rfl, ?hyA13⟩) (by assumption) ?restA13
                              case hyA13 => (intro w hSw; (try dsimp only at hSw); go_simp; try with_reducible rfl)
                              try simp only [Act.put, List.setIfInBounds_toArray, List.set_cons_zero, List.set_cons_succ]
                              refine' wpAnyH_take (i := 14) (oi := ⟨_, _, _, _, _, _⟩) (v := _) rfl (by kernel_rfl) (by kernel_rfl) (by kernel_rfl) (fun _ _ _ h => h) (Or.inl ⟨by rfl, ?hyA14⟩) (by assumption) ?restA14
                              case hyA14 => (intro w hSw; (try dsimp only at hSw); go_simp; try with_reducible rfl)
                              try simp only [Act.put, List.setIfInBounds_toArray, List.set_cons_zero, List.set_cons_succ]
                              refine' wpAnyH_take (i := 15) (oi := ⟨_, _, _, _, _, _⟩) (v := _) rfl (by kernel_rfl) (by kernel_rfl) (by kernel_rfl) (fun _ _ _ h => h) (Or.inl ⟨by rfl, ?hyA15⟩) (by assumption) ?restA15
                              case hyA15 => (intro w hSw; (try dsimp only at hSw); go_simp; try with_reducible rfl)
                              try simp only [Act.put, List.setIfInBounds_toArray, List.set_cons_zero, List.set_cons_succ]
                              refine' wpAnyH_take (i := 16) (oi := ⟨_, _, _, _, _, _⟩) (v := _) rfl (by kernel_rfl) (by kernel_rfl) (by kernel_rfl) (fun _ _ _ h => h) (Or.inl ⟨by rfl, ?hyA16⟩) (by assumption) ?restA16
                              case hyA16 => (intro w hSw; (try dsimp only at hSw); go_simp; try with_reducible rfl)
                              try simp only [Act.put, List.setIfInBounds_toArray, List.set_cons_zero, List.set_cons_succ]
                              refine' wpAnyH_take (i := 17) (oi := ⟨_, _, _, _, _, _⟩) (v := _) rfl (by kernel_rfl) (by kernel_rfl) (by kernel_rfl) (fun _ _ _ h => h) (Or.inl ⟨by rfl, ?hyA17⟩) (by assumption) ?restA17
                              case hyA17 => (intro w hSw; (try dsimp only at hSw); go_simp; try with_reducible rfl)
                              try simp only [Act.put, List.setIfInBounds_toArray, List.set_cons_zero, List.set_cons_succ]
                              refine' wpAnyH_take (i := 18) (oi := ⟨_, _, _, _, _, _⟩) (v := _) rfl (by kernel_rfl) (by kernel_rfl) (by kernel_rfl) (fun _ _ _ h => h) (Or.inl ⟨by rfl, ?hyA18⟩) (by assumption) ?restA18
                              case hyA18 => (intro w hSw; (try dsimp only at hSw); go_simp; try with_reducible rfl)
                              try simp only [Act.put, List.setIfInBounds_toArray, List.set_cons_zero, List.set_cons_succ]
                              refine' wpAnyH_take (i := 19) (oi := ⟨_, _, _, _, _, _⟩) (v := _) rfl (by kernel_rfl) (by kernel_rfl) (by kernel_rfl) (fun _ _ _ h => h) (Or.inl ⟨by rfl, ?hyA19⟩) (by assumption) ?restA19
                              case hyA19 => (intro w hSw; (try dsimp only at hSw); go_simp; try with_reducible rfl)
                              try simp only [Act.put, List.setIfInBounds_toArray, List.set_cons_zero, List.set_cons_succ]
                              refine' wpAnyH_take (i := 20) (oi := ⟨_, _, _, _, _, _⟩) (v := _) rfl (by kernel_rfl) (by kernel_rfl) (by kernel_rfl) (fun _ _ _ h => h) (Or.inl ⟨by rfl, ?hyA20⟩) (by assumption) ?restA20
                              case hyA20 => (intro w hSw; (try dsimp only at hSw); go_simp; try with_reducible rfl)
                              try simp only [Act.put, List.setIfInBounds_toArray, List.set_cons_zero, List.set_cons_succ]
                              refine' wpAnyH_take (i := 21) (oi := ⟨_, _, _, _, _, _⟩) (v := _) rfl (by kernel_rfl) (by kernel_rfl) (by kernel_rfl) (fun _ _ _ h => h) (Or.inl ⟨by rfl, ?hyA21⟩) (by assumption) ?restA21
                              case hyA21 => (intro w hSw; (try dsimp only at hSw); go_simp; try with_reducible rfl)
                              try simp only [Act.put, List.setIfInBounds_toArray, List.set_cons_zero, List.set_cons_succ]
                              refine' wpAnyH_take (i := 22) (oi := ⟨_, _, _, _, _, _⟩) (v := _) rfl (by kernel_rfl) (by kernel_rfl) (by kernel_rfl) (fun _ _ _ h => h) (Or.inl ⟨by rfl, ?hyA22⟩) (by assumption) ?restA22
                              case hyA22 => (intro w hSw; (try dsimp only at hSw); go_simp; try with_reducible rfl)
                              try simp only [Act.put, List.setIfInBounds_toArray, List.set_cons_zero, List.set_cons_succ]
                              refine' wpAnyH_take (i := 23) (oi := ⟨_, _, _, _, _, _⟩) (v := _) rfl (by kernel_rfl) (by kernel_rfl) (by kernel_rfl) (fun _ _ _ h => h) (Or.inl ⟨by rfl, ?hyA23⟩) (by assumption) ?restA23
                              case hyA23 => (intro w hSw; (try dsimp only at hSw); go_simp; try with_reducible rfl)
                              try simp only [Act.put, List.setIfInBounds_toArray, List.set_cons_zero, List.set_cons_succ]
                              refine' wpAnyH_take (i := 24) (oi := ⟨_, _, _, _, _, _⟩) (v := _) rfl (by kernel_rfl) (by kernel_rfl) (by kernel_rfl) (fun _ _ _ h => h) (Or.inl ⟨by rfl, ?hyA24⟩) (by assumption) ?restA24
                              case hyA24 => (intro w hSw; (try dsimp only at hSw); go_simp; try with_reducible rfl)
                              try simp only [Act.put, List.setIfInBounds_toArray, List.set_cons_zero, List.set_cons_succ]
                              refine' wpAnyH_take (i := 25) (oi := ⟨_, _, _, _, _, _⟩) (v := _) rfl (by kernel_rfl) (by kernel_rfl) (by kernel_rfl) (fun _ _ _ h => h) (Or.inl ⟨by rfl, ?hyA25⟩) (by assumption) ?restA25
                              case hyA25 => (intro w hSw; (try dsimp only at hSw); go_simp; try with_reducible rfl)
                              try simp only [Act.put, List.setIfInBounds_toArray, List.set_cons_zero, List.set_cons_succ]
                              refine' wpAnyH_take (i := 26) (oi := ⟨_, _, _, _, _, _⟩) (v := _) rfl (by kernel_rfl) (by kernel_rfl) (by kernel_rfl) (fun _ _ _ h => h) (Or.inl ⟨by rfl, ?hyA26⟩) (by assumption) ?restA26
                              case hyA26 => (intro w hSw; (try dsimp only at hSw); go_simp; try with_reducible rfl)
                              try simp only [Act.put, List.setIfInBounds_toArray, List.set_cons_zero, List.set_cons_succ]
                              refine wpAnyH_done (by kernel_rfl) ?_ _
                              refine NoPanic.normal ?_
                              go_wp2
                              go_roundw
                              case rel => exact ⟨t + 1, by omega, by go_num, Ht.out.drew⟩
                              case measure => simp [intOf]; omega
                            · have d1 : decide (wv < wu) = true := decide_eq_true g1
                              have d2 : decide (0 < wv) = false := decide_eq_false (by omega)
                              clear hmm
                              go_wp2
                              refine wp_region_noPanic ?_
                              refine wp_region_held_drew (S := fun W => W.cell? ⟨b, o + u, none⟩ = some (.int .i64 wu) ∧ W.cell? ⟨b, o + t, none⟩ = some (.int .i64 wv) ∧ W.cell? ⟨b4, o4 + u, none⟩ = some (.int .i64 lu) ∧ W.cell? ⟨b4, o4 + t, none⟩ = some (.int .i64 lt')) (by kernel_rfl) (⟨yu, yt, xu, xt⟩) (fun hHeld => ?_)
                              refine' wpAnyH_take (i := 0) (oi := ⟨_, _, _, _, _, _⟩) (v := _) rfl (by kernel_rfl) (by kernel_rfl) (by kernel_rfl) (fun _ _ _ h => h) (Or.inl ⟨by rfl, ?hyB0⟩) (by assumption) ?restB0
                              case hyB0 => (intro w hSw; (try dsimp only at hSw); go_simp; try with_reducible rfl)
                              try simp only [Act.put, List.setIfInBounds_toArray, List.set_cons_zero, List.set_cons_succ]
                              refine' wpAnyH_take (i := 1) (oi := ⟨_, _, _, _, _, _⟩) (v := _) rfl (by kernel_rfl) (by kernel_rfl) (by kernel_rfl) (fun _ _ _ h => h) (Or.inl ⟨by rfl, ?hyB1⟩) (by assumption) ?restB1
                              case hyB1 => (intro w hSw; (try dsimp only at hSw); go_simp; try with_reducible rfl)
                              try simp only [Act.put, List.setIfInBounds_toArray, List.set_cons_zero, List.set_cons_succ]
                              refine' wpAnyH_take (i := 2) (oi := ⟨_, _, _, _, _, _⟩) (v := _) rfl (by kernel_rfl) (by kernel_rfl) (by kernel_rfl) (fun _ _ _ h => h) (Or.inl ⟨by rfl, ?hyB2⟩) (by assumption) ?restB2
                              case hyB2 => (intro w hSw; (try dsimp only at hSw); go_simp; try with_reducible rfl)
                              try simp only [Act.put, List.setIfInBounds_toArray, List.set_cons_zero, List.set_cons_succ]
                              refine' wpAnyH_take (i := 3) (oi := ⟨_, _, _, _, _, _⟩) (v := _) rfl (by kernel_rfl) (by kernel_rfl) (by kernel_rfl) (fun _ _ _ h => h) (Or.inl ⟨by rfl, ?hyB3⟩) (by assumption) ?restB3
                              case hyB3 => (intro w hSw; (try dsimp only at hSw); go_simp; try with_reducible rfl)
                              try simp only [Act.put, List.setIfInBounds_toArray, List.set_cons_zero, List.set_cons_succ]
                              refine' wpAnyH_take (i := 4) (oi := ⟨_, _, _, _, _, _⟩) (v := _) rfl (by kernel_rfl) (by kernel_rfl) (by kernel_rfl) (fun _ _ _ h => h) (Or.inl ⟨by rfl, ?hyB4⟩) (by assumption) ?restB4
                              case hyB4 => (intro w hSw; (try dsimp only at hSw); go_simp; try with_reducible rfl)
                              try simp only [Act.put, List.setIfInBounds_toArray, List.set_cons_zero, List.set_cons_succ]
                              refine' wpAnyH_take (i := 5) (oi := ⟨_, _, _, _, _, _⟩) (v := _) rfl (by kernel_rfl) (by kernel_rfl) (by kernel_rfl) (fun _ _ _ h => h) (Or.inl ⟨by rfl, ?hyB5⟩) (by assumption) ?restB5
                              case hyB5 => (intro w hSw; (try dsimp only at hSw); go_simp; try with_reducible rfl)
                              try simp only [Act.put, List.setIfInBounds_toArray, List.set_cons_zero, List.set_cons_succ]
                              refine' wpAnyH_take (i := 6) (oi := ⟨_, _, _, _, _, _⟩) (v := _) rfl (by kernel_rfl) (by kernel_rfl) (by kernel_rfl) (fun _ _ _ h => h) (Or.inl ⟨by rfl, ?hyB6⟩) (by assumption) ?restB6
                              case hyB6 => (intro w hSw; (try dsimp only at hSw); go_simp; try with_reducible rfl)
                              try simp only [Act.put, List.setIfInBounds_toArray, List.set_cons_zero, List.set_cons_succ]
                              refine' wpAnyH_take (i := 7) (oi := ⟨_, _, _, _, _, _⟩) (v := _) rfl (by kernel_rfl) (by kernel_rfl) (by kernel_rfl) (fun _ _ _ h => h) (Or.inl ⟨by rfl, ?hyB7⟩) (by assumption) ?restB7
                              case hyB7 => (intro w hSw; (try dsimp only at hSw); go_simp; try with_reducible rfl)
                              try simp only [Act.put, List.setIfInBounds_toArray, List.set_cons_zero, List.set_cons_succ]
                              refine' wpAnyH_take (i := 8) (oi := ⟨_, _, _, _, _, _⟩) (v := _) rfl (by kernel_rfl) (by kernel_rfl) (by kernel_rfl) (fun _ _ _ h => h) (Or.inl ⟨by rfl, ?hyB8⟩) (by assumption) ?restB8
                              case hyB8 => (intro w hSw; (try dsimp only at hSw); go_simp; try with_reducible rfl)
                              try simp only [Act.put, List.setIfInBounds_toArray, List.set_cons_zero, List.set_cons_succ]
                              refine' wpAnyH_take (i := 9) (oi := ⟨_, _, _, _, _, _⟩) (v := _) rfl (by kernel_rfl) (by kernel_rfl) (by kernel_rfl) (fun _ _ _ h => h) (Or.inl ⟨by rfl, ?hyB9⟩) (by assumption) ?restB9
                              case hyB9 => (intro w hSw; (try dsimp only at hSw); go_simp; try with_reducible rfl)
                              try simp only [Act.put, List.setIfInBounds_toArray, List.set_cons_zero, List.set_cons_succ]
                              refine' wpAnyH_take (i := 10) (oi := ⟨_, _, _, _, _, _⟩) (v := _) rfl (by kernel_rfl) (by kernel_rfl) (by kernel_rfl) (fun _ _ _ h => h) (Or.inl ⟨by rfl, ?hyB10⟩) (by assumption) ?restB10
                              case hyB10 => (intro w hSw; (try dsimp only at hSw); go_simp; try with_reducible rfl)
                              try simp only [Act.put, List.setIfInBounds_toArray, List.set_cons_zero, List.set_cons_succ]
                              refine' wpAnyH_take (i := 11) (oi := ⟨_, _, _, _, _, _⟩) (v := _) rfl (by kernel_rfl) (by kernel_rfl) (by kernel_rfl) (fun _ _ _ h => h) (Or.inl ⟨by rfl, ?hyB11⟩) (by assumption) ?restB11
                              case hyB11 => (intro w hSw; (try dsimp only at hSw); go_simp; try with_reducible rfl)
                              try simp only [Act.put, List.setIfInBounds_toArray, List.set_cons_zero, List.set_cons_succ]
                              refine' wpAnyH_take (i := 12) (oi := ⟨_, _, _, _, _, _⟩) (v := _) rfl (by kernel_rfl) (by kernel_rfl) (by kernel_rfl) (fun _ _ _ h => h) (Or.inl ⟨by rfl, ?hyB12⟩) (by assumption) ?restB12
                              case hyB12 => (intro w hSw; (try dsimp only at hSw); go_simp; try with_reducible rfl)
                              try simp only [Act.put, List.setIfInBounds_toArray, List.set_cons_zero, List.set_cons_succ]
                              refine' wpAnyH_take (i := 13) (oi := ⟨_, _, _, _, _, _⟩) (v := _) rfl (by kernel_rfl) (by kernel_rfl) (by kernel_rfl) (fun _ _ _ h => h) (Or.inl ⟨by rfl, ?hyB13⟩) (by assumption) ?restB13
                              case hyB13 => (intro w hSw; (try dsimp only at hSw); go_simp; try with_reducible rfl)
                              try simp only [Act.put, List.setIfInBounds_toArray, List.set_cons_zero, List.set_cons_succ]
                              refine' wpAnyH_take (i := 14) (oi := ⟨_, _, _, _, _, _⟩) (v := _) rfl (by kernel_rfl) (by kernel_rfl) (by kernel_rfl) (fun _ _ _ h => h) (Or.inl ⟨by rfl, ?hyB14⟩) (by assumption) ?restB14
                              case hyB14 => (intro w hSw; (try dsimp only at hSw); go_simp; try with_reducible rfl)
                              try simp only [Act.put, List.setIfInBounds_toArray, List.set_cons_zero, List.set_cons_succ]
                              refine' wpAnyH_take (i := 15) (oi := ⟨_, _, _, _, _, _⟩) (v := _) rfl (by kernel_rfl) (by kernel_rfl) (by kernel_rfl) (fun _ _ _ h => h) (Or.inl ⟨by rfl, ?hyB15⟩) (by assumption) ?restB15
                              case hyB15 => (intro w hSw; (try dsimp only at hSw); go_simp; try with_reducible rfl)
                              try simp only [Act.put, List.setIfInBounds_toArray, List.set_cons_zero, List.set_cons_succ]
                              refine' wpAnyH_take (i := 16) (oi := ⟨_, _, _, _, _, _⟩) (v := _) rfl (by kernel_rfl) (by kernel_rfl) (by kernel_rfl) (fun _ _ _ h => h) (Or.inl ⟨by rfl, ?hyB16⟩) (by assumption) ?restB16
                              case hyB16 => (intro w hSw; (try dsimp only at hSw); go_simp; try with_reducible rfl)
                              try simp only [Act.put, List.setIfInBounds_toArray, List.set_cons_zero, List.set_cons_succ]
                              refine' wpAnyH_take (i := 17) (oi := ⟨_, _, _, _, _, _⟩) (v := undef) rfl (by kernel_rfl) (by kernel_rfl) (by kernel_rfl) (fun _ _ _ h => h) (Or.inr ⟨by rfl, rfl⟩) (by assumption) ?_
                              try simp only [Act.put, List.setIfInBounds_toArray, List.set_cons_zero, List.set_cons_succ]
                              refine' wpAnyH_take (i := 18) (oi := ⟨_, _, _, _, _, _⟩) (v := undef) rfl (by kernel_rfl) (by kernel_rfl) (by kernel_rfl) (fun _ _ _ h => h) (Or.inr ⟨by rfl, rfl⟩) (by assumption) ?_
                              try simp only [Act.put, List.setIfInBounds_toArray, List.set_cons_zero, List.set_cons_succ]
                              refine' wpAnyH_take (i := 19) (oi := ⟨_, _, _, _, _, _⟩) (v := undef) rfl (by kernel_rfl) (by kernel_rfl) (by kernel_rfl) (fun _ _ _ h => h) (Or.inr ⟨by rfl, rfl⟩) (by assumption) ?_
                              try simp only [Act.put, List.setIfInBounds_toArray, List.set_cons_zero, List.set_cons_succ]
                              refine' wpAnyH_take (i := 20) (oi := ⟨_, _, _, _, _, _⟩) (v := undef) rfl (by kernel_rfl) (by kernel_rfl) (by kernel_rfl) (fun _ _ _ h => h) (Or.inr ⟨by rfl, rfl⟩) (by assumption) ?_
                              try simp only [Act.put, List.setIfInBounds_toArray, List.set_cons_zero, List.set_cons_succ]
                              refine' wpAnyH_take (i := 21) (oi := ⟨_, _, _, _, _, _⟩) (v := undef) rfl (by kernel_rfl) (by kernel_rfl) (by kernel_rfl) (fun _ _ _ h => h) (Or.inr ⟨by rfl, rfl⟩) (by assumption) ?_
                              try simp only [Act.put, List.setIfInBounds_toArray, List.set_cons_zero, List.set_cons_succ]
                              refine' wpAnyH_take (i := 22) (oi := ⟨_, _, _, _, _, _⟩) (v := undef) rfl (by kernel_rfl) (by kernel_rfl) (by kernel_rfl) (fun _ _ _ h => h) (Or.inr ⟨by rfl, rfl⟩) (by assumption) ?_
                              try simp only [Act.put, List.setIfInBounds_toArray, List.set_cons_zero, List.set_cons_succ]
                              refine' wpAnyH_take (i := 23) (oi := ⟨_, _, _, _, _, _⟩) (v := undef) rfl (by kernel_rfl) (by kernel_rfl) (by kernel_rfl) (fun _ _ _ h => h) (Or.inr ⟨by rfl, rfl⟩) (by assumption) ?_
                              try simp only [Act.put, List.setIfInBounds_toArray, List.set_cons_zero, List.set_cons_succ]
                              refine' wpAnyH_take (i := 24) (oi := ⟨_, _, _, _, _, _⟩) (v := undef) rfl (by kernel_rfl) (by kernel_rfl) (by kernel_rfl) (fun _ _ _ h => h) (Or.inr ⟨by rfl, rfl⟩) (by assumption) ?_
                              try simp only [Act.put, List.setIfInBounds_toArray, List.set_cons_zero, List.set_cons_succ]
                              refine' wpAnyH_take (i := 25) (oi := ⟨_, _, _, _, _, _⟩) (v := undef) rfl (by kernel_rfl) (by kernel_rfl) (by kernel_rfl) (fun _ _ _ h => h) (Or.inr ⟨by rfl, rfl⟩) (by assumption) ?_
                              try simp only [Act.put, List.setIfInBounds_toArray, List.set_cons_zero, List.set_cons_succ]
                              refine' wpAnyH_take (i := 26) (oi := ⟨_, _, _, _, _, _⟩) (v := _) rfl (by kernel_rfl) (by kernel_rfl) (by kernel_rfl) (fun _ _ _ h => h) (Or.inl ⟨by rfl, ?hyB26⟩) (by assumption) ?restB26
                              case hyB26 => (intro w hSw; (try dsimp only at hSw); go_simp; try with_reducible rfl)
                              try simp only [Act.put, List.setIfInBounds_toArray, List.set_cons_zero, List.set_cons_succ]
                              refine wpAnyH_done (by kernel_rfl) ?_ _
                              refine NoPanic.normal ?_
                              go_wp2
                              go_roundw
                              case rel => exact ⟨t + 1, by omega, by go_num, Ht.out.drew⟩
                              case measure => simp [intOf]; omega
                          · have d1 : decide (wv < wu) = false := decide_eq_false (by omega)
                            clear hmm
                            go_wp2
                            refine wp_region_noPanic ?_
                            refine wp_region_held_drew (S := fun W => W.cell? ⟨b, o + u, none⟩ = some (.int .i64 wu) ∧ W.cell? ⟨b, o + t, none⟩ = some (.int .i64 wv) ∧ W.cell? ⟨b4, o4 + u, none⟩ = some (.int .i64 lu) ∧ W.cell? ⟨b4, o4 + t, none⟩ = some (.int .i64 lt')) (by kernel_rfl) (⟨yu, yt, xu, xt⟩) (fun hHeld => ?_)
                            refine' wpAnyH_take (i := 0) (oi := ⟨_, _, _, _, _, _⟩) (v := _) rfl (by kernel_rfl) (by kernel_rfl) (by kernel_rfl) (fun _ _ _ h => h) (Or.inl ⟨by rfl, ?hyC0⟩) (by assumption) ?restC0
                            case hyC0 => (intro w hSw; (try dsimp only at hSw); go_simp; try with_reducible rfl)
                            try simp only [Act.put, List.setIfInBounds_toArray, List.set_cons_zero, List.set_cons_succ]
                            refine' wpAnyH_take (i := 1) (oi := ⟨_, _, _, _, _, _⟩) (v := _) rfl (by kernel_rfl) (by kernel_rfl) (by kernel_rfl) (fun _ _ _ h => h) (Or.inl ⟨by rfl, ?hyC1⟩) (by assumption) ?restC1
                            case hyC1 => (intro w hSw; (try dsimp only at hSw); go_simp; try with_reducible rfl)
                            try simp only [Act.put, List.setIfInBounds_toArray, List.set_cons_zero, List.set_cons_succ]
                            refine' wpAnyH_take (i := 2) (oi := ⟨_, _, _, _, _, _⟩) (v := _) rfl (by kernel_rfl) (by kernel_rfl) (by kernel_rfl) (fun _ _ _ h => h) (Or.inl ⟨by rfl, ?hyC2⟩) (by assumption) ?restC2
                            case hyC2 => (intro w hSw; (try dsimp only at hSw); go_simp; try with_reducible rfl)
                            try simp only [Act.put, List.setIfInBounds_toArray, List.set_cons_zero, List.set_cons_succ]
                            refine' wpAnyH_take (i := 3) (oi := ⟨_, _, _, _, _, _⟩) (v := _) rfl (by kernel_rfl) (by kernel_rfl) (by kernel_rfl) (fun _ _ _ h => h) (Or.inl ⟨by rfl, ?hyC3⟩) (by assumption) ?restC3
                            case hyC3 => (intro w hSw; (try dsimp only at hSw); go_simp; try with_reducible rfl)
                            try simp only [Act.put, List.setIfInBounds_toArray, List.set_cons_zero, List.set_cons_succ]
                            refine' wpAnyH_take (i := 4) (oi := ⟨_, _, _, _, _, _⟩) (v := _) rfl (by kernel_rfl) (by kernel_rfl) (by kernel_rfl) (fun _ _ _ h => h) (Or.inl ⟨by rfl, ?hyC4⟩) (by assumption) ?restC4
                            case hyC4 => (intro w hSw; (try dsimp only at hSw); go_simp; try with_reducible rfl)
                            try simp only [Act.put, List.setIfInBounds_toArray, List.set_cons_zero, List.set_cons_succ]
                            refine' wpAnyH_take (i := 5) (oi := ⟨_, _, _, _, _, _⟩) (v := _) rfl (by kernel_rfl) (by kernel_rfl) (by kernel_rfl) (fun _ _ _ h => h) (Or.inl ⟨by rfl, ?hyC5⟩) (by assumption) ?restC5
                            case hyC5 => (intro w hSw; (try dsimp only at hSw); go_simp; try with_reducible rfl)
                            try simp only [Act.put, List.setIfInBounds_toArray, List.set_cons_zero, List.set_cons_succ]
                            refine' wpAnyH_take (i := 6) (oi := ⟨_, _, _, _, _, _⟩) (v := _) rfl (by kernel_rfl) (by kernel_rfl) (by kernel_rfl) (fun _ _ _ h => h) (Or.inl ⟨by rfl, ?hyC6⟩) (by assumption) ?restC6
                            case hyC6 => (intro w hSw; (try dsimp only at hSw); go_simp; try with_reducible rfl)
                            try simp only [Act.put, List.setIfInBounds_toArray, List.set_cons_zero, List.set_cons_succ]
                            refine' wpAnyH_take (i := 7) (oi := ⟨_, _, _, _, _, _⟩) (v := _) rfl (by kernel_rfl) (by kernel_rfl) (by kernel_rfl) (fun _ _ _ h => h) (Or.inl ⟨by rfl, ?hyC7⟩) (by assumption) ?restC7
                            case hyC7 => (intro w hSw; (try dsimp only at hSw); go_simp; try with_reducible rfl)
                            try simp only [Act.put, List.setIfInBounds_toArray, List.set_cons_zero, List.set_cons_succ]
                            refine' wpAnyH_take (i := 8) (oi := ⟨_, _, _, _, _, _⟩) (v := _) rfl (by kernel_rfl) (by kernel_rfl) (by kernel_rfl) (fun _ _ _ h => h) (Or.inl ⟨by rfl, ?hyC8⟩) (by assumption) ?restC8
                            case hyC8 => (intro w hSw; (try dsimp only at hSw); go_simp; try with_reducible rfl)
                            try simp only [Act.put, List.setIfInBounds_toArray, List.set_cons_zero, List.set_cons_succ]
                            refine' wpAnyH_take (i := 9) (oi := ⟨_, _, _, _, _, _⟩) (v := _) rfl (by kernel_rfl) (by kernel_rfl) (by kernel_rfl) (fun _ _ _ h => h) (Or.inl ⟨by rfl, ?hyC9⟩) (by assumption) ?restC9
                            case hyC9 => (intro w hSw; (try dsimp only at hSw); go_simp; try with_reducible rfl)
                            try simp only [Act.put, List.setIfInBounds_toArray, List.set_cons_zero, List.set_cons_succ]
                            refine' wpAnyH_take (i := 10) (oi := ⟨_, _, _, _, _, _⟩) (v := undef) rfl (by kernel_rfl) (by kernel_rfl) (by kernel_rfl) (fun _ _ _ h => h) (Or.inr ⟨by rfl, rfl⟩) (by assumption) ?_
                            try simp only [Act.put, List.setIfInBounds_toArray, List.set_cons_zero, List.set_cons_succ]
                            refine' wpAnyH_take (i := 11) (oi := ⟨_, _, _, _, _, _⟩) (v := undef) rfl (by kernel_rfl) (by kernel_rfl) (by kernel_rfl) (fun _ _ _ h => h) (Or.inr ⟨by rfl, rfl⟩) (by assumption) ?_
                            try simp only [Act.put, List.setIfInBounds_toArray, List.set_cons_zero, List.set_cons_succ]
                            refine' wpAnyH_take (i := 12) (oi := ⟨_, _, _, _, _, _⟩) (v := undef) rfl (by kernel_rfl) (by kernel_rfl) (by kernel_rfl) (fun _ _ _ h => h) (Or.inr ⟨by rfl, rfl⟩) (by assumption) ?_
                            try simp only [Act.put, List.setIfInBounds_toArray, List.set_cons_zero, List.set_cons_succ]
                            refine' wpAnyH_take (i := 13) (oi := ⟨_, _, _, _, _, _⟩) (v := undef) rfl (by kernel_rfl) (by kernel_rfl) (by kernel_rfl) (fun _ _ _ h => h) (Or.inr ⟨by rfl, rfl⟩) (by assumption) ?_
                            try simp only [Act.put, List.setIfInBounds_toArray, List.set_cons_zero, List.set_cons_succ]
                            refine' wpAnyH_take (i := 14) (oi := ⟨_, _, _, _, _, _⟩) (v := undef) rfl (by kernel_rfl) (by kernel_rfl) (by kernel_rfl) (fun _ _ _ h => h) (Or.inr ⟨by rfl, rfl⟩) (by assumption) ?_
                            try simp only [Act.put, List.setIfInBounds_toArray, List.set_cons_zero, List.set_cons_succ]
                            refine' wpAnyH_take (i := 15) (oi := ⟨_, _, _, _, _, _⟩) (v := _) rfl (by kernel_rfl) (by kernel_rfl) (by kernel_rfl) (fun _ _ _ h => h) (Or.inl ⟨by rfl, ?hyC15⟩) (by assumption) ?restC15
                            case hyC15 => (intro w hSw; (try dsimp only at hSw); go_simp; try with_reducible rfl)
                            try simp only [Act.put, List.setIfInBounds_toArray, List.set_cons_zero, List.set_cons_succ]
                            refine' wpAnyH_take (i := 16) (oi := ⟨_, _, _, _, _, _⟩) (v := _) rfl (by kernel_rfl) (by kernel_rfl) (by kernel_rfl) (fun _ _ _ h => h) (Or.inl ⟨by rfl, ?hyC16⟩) (by assumption) ?restC16
                            case hyC16 => (intro w hSw; (try dsimp only at hSw); go_simp; try with_reducible rfl)
                            try simp only [Act.put, List.setIfInBounds_toArray, List.set_cons_zero, List.set_cons_succ]
                            refine' wpAnyH_take (i := 17) (oi := ⟨_, _, _, _, _, _⟩) (v := undef) rfl (by kernel_rfl) (by kernel_rfl) (by kernel_rfl) (fun _ _ _ h => h) (Or.inr ⟨by rfl, rfl⟩) (by assumption) ?_
                            try simp only [Act.put, List.setIfInBounds_toArray, List.set_cons_zero, List.set_cons_succ]
                            refine' wpAnyH_take (i := 18) (oi := ⟨_, _, _, _, _, _⟩) (v := undef) rfl (by kernel_rfl) (by kernel_rfl) (by kernel_rfl) (fun _ _ _ h => h) (Or.inr ⟨by rfl, rfl⟩) (by assumption) ?_
                            try simp only [Act.put, List.setIfInBounds_toArray, List.set_cons_zero, List.set_cons_succ]
                            refine' wpAnyH_take (i := 19) (oi := ⟨_, _, _, _, _, _⟩) (v := undef) rfl (by kernel_rfl) (by kernel_rfl) (by kernel_rfl) (fun _ _ _ h => h) (Or.inr ⟨by rfl, rfl⟩) (by assumption) ?_
                            try simp only [Act.put, List.setIfInBounds_toArray, List.set_cons_zero, List.set_cons_succ]
                            refine' wpAnyH_take (i := 20) (oi := ⟨_, _, _, _, _, _⟩) (v := undef) rfl (by kernel_rfl) (by kernel_rfl) (by kernel_rfl) (fun _ _ _ h => h) (Or.inr ⟨by rfl, rfl⟩) (by assumption) ?_
                            try simp only [Act.put, List.setIfInBounds_toArray, List.set_cons_zero, List.set_cons_succ]
                            refine' wpAnyH_take (i := 21) (oi := ⟨_, _, _, _, _, _⟩) (v := undef) rfl (by kernel_rfl) (by kernel_rfl) (by kernel_rfl) (fun _ _ _ h => h) (Or.inr ⟨by rfl, rfl⟩) (by assumption) ?_
                            try simp only [Act.put, List.setIfInBounds_toArray, List.set_cons_zero, List.set_cons_succ]
                            refine' wpAnyH_take (i := 22) (oi := ⟨_, _, _, _, _, _⟩) (v := undef) rfl (by kernel_rfl) (by kernel_rfl) (by kernel_rfl) (fun _ _ _ h => h) (Or.inr ⟨by rfl, rfl⟩) (by assumption) ?_
                            try simp only [Act.put, List.setIfInBounds_toArray, List.set_cons_zero, List.set_cons_succ]
                            refine' wpAnyH_take (i := 23) (oi := ⟨_, _, _, _, _, _⟩) (v := undef) rfl (by kernel_rfl) (by kernel_rfl) (by kernel_rfl) (fun _ _ _ h => h) (Or.inr ⟨by rfl, rfl⟩) (by assumption) ?_
                            try simp only [Act.put, List.setIfInBounds_toArray, List.set_cons_zero, List.set_cons_succ]
                            refine' wpAnyH_take (i := 24) (oi := ⟨_, _, _, _, _, _⟩) (v := undef) rfl (by kernel_rfl) (by kernel_rfl) (by kernel_rfl) (fun _ _ _ h => h) (Or.inr ⟨by rfl, rfl⟩) (by assumption) ?_
                            try simp only [Act.put, List.setIfInBounds_toArray, List.set_cons_zero, List.set_cons_succ]
                            refine' wpAnyH_take (i := 25) (oi := ⟨_, _, _, _, _, _⟩) (v := undef) rfl (by kernel_rfl) (by kernel_rfl) (by kernel_rfl) (fun _ _ _ h => h) (Or.inr ⟨by rfl, rfl⟩) (by assumption) ?_
                            try simp only [Act.put, List.setIfInBounds_toArray, List.set_cons_zero, List.set_cons_succ]
                            refine' wpAnyH_take (i := 26) (oi := ⟨_, _, _, _, _, _⟩) (v := _) rfl (by kernel_rfl) (by kernel_rfl) (by kernel_rfl) (fun _ _ _ h => h) (Or.inl ⟨by rfl, ?hyC26⟩) (by assumption) ?restC26
                            case hyC26 => (intro w hSw; (try dsimp only at hSw); go_simp; try with_reducible rfl)
                            try simp only [Act.put, List.setIfInBounds_toArray, List.set_cons_zero, List.set_cons_succ]
                            refine wpAnyH_done (by kernel_rfl) ?_ _
                            refine NoPanic.normal ?_
                            go_wp2
                            go_roundw
                            case rel => exact ⟨t + 1, by omega, by go_num, Ht.out.drew⟩
                            case measure => simp [intOf]; omega
                        · obtain rfl : t = q := by omega
                          go_wp2
                          go_roundw
                          case rel => exact ⟨u + 1, by omega, by go_num, Ht.out⟩
                          case measure => simp [intOf]; omega
                    · go_wp2_with fail
                      refine (same5_calls A4 A5 q c4 c5 X _ (K7.out.below Hu.out) (by rw [HXY.out]; exact M7.out.below Hu.out) (by omega)).mono ?_
                      rintro e w8 ⟨rfl, hb8⟩
                      have H8 := Lib.hid (below_seq (below_seq H7.out (Nat.le_refl _) Hu.out) (Nat.le_refl _) hb8)
                      clear hb8
                      go_wp2
                      go_ret
                      exact ⟨rfl, H8.out⟩
                · go_wp2
                  go_ret
                  exact ⟨rfl, H7.out⟩
end Go.Proofs.Ytempgkglhgelkaa
