/-
  CodesSays: the items tell the lengths that were pressed.
-/
import Derived.Test.YtempgkglhgelkaaCodesL
import Derived.Test.YtempgkglhgelkaaCodesQ
namespace Go.Proofs.Ytempgkglhgelkaa
open Go.RowKit

set_option maxHeartbeats 1000000 in
theorem same8_calls (A B : Option Addr) (n c d : Nat) (xs : List Int) (w : World) (hA : Rd w .i64 A n xs) (hB : Rd w .i64 B n xs) (hn : n ≤ 1000000) :
    Calls Try.prog 15 #[.slice A n c, .slice B n d] w fun e w' => e = .returned (.bool true) ∧ Below w.heap.size w w' := by
  have HA := Lib.hid hA
  have HB := Lib.hid hB
  clear hA hB
  go_enter Try.func15, Try.ntmps15
  go_wp2
  go_loop [5] (fun i => ∃ k : Nat, k ≤ n ∧ i = .int .i64 k) (fun i => n - (intOf i).toNat)
  case atStart => exact ⟨0, by omega, rfl⟩
  case round =>
    obtain ⟨k, hk, rfl⟩ := hrel
    by_cases hlt : k < n
    · obtain ⟨b, o, rfl, hc⟩ := HA.out.2 (by omega)
      obtain ⟨b', o', rfl, hc'⟩ := HB.out.2 (by omega)
      have z1 := hc k hlt
      have z2 := hc' k hlt
      clear hc hc'
      go_wp2
      go_round
      case rel => exact ⟨k + 1, by omega, by go_num⟩
      case measure => simp [intOf]; omega
    · obtain rfl : k = n := by omega
      go_wp2
      go_ret
      exact ⟨rfl, Below.refl _ _⟩

set_option maxHeartbeats 4000000 in
set_option maxRecDepth 200000 in
theorem CodesSays_calls (A : Option Addr) (len cap : Nat) (xs : List Int) (w : World) (hR : Rd w .u8 A len xs) (hr : ∀ j, j < len → 0 ≤ rd xs j ∧ rd xs j ≤ 255) (hlen : len ≤ 140737488351232) :
    Calls Try.prog 4 #[.slice A len cap] w fun e w' => e = .returned (.bool true) ∧ Below w.heap.size w w' := by
  have HR := Lib.hid hR
  have Hr := Lib.hid hr
  clear hR hr
  by_cases hl : len ≤ 500
  · go_enter Try.func4, Try.ntmps4
    go_wp2_with fail
    refine (awake8_calls _).mono ?_
    rintro e w1 ⟨rfl, hb1⟩
    have Hb1 := Lib.hid hb1
    clear hb1
    go_wp2_with fail
    refine (right8_calls A len cap xs _ (HR.out.below (Hb1.out.mono (Nat.le_refl _))) Hr.out (by omega)).mono ?_
    rintro e w2 ⟨v2, rfl, hown2, hb2⟩
    obtain ⟨A2, c2, rfl, _, hR2⟩ := own_rd hown2
    have hmr : ∀ j, j < len → 0 ≤ rd (mod16 xs) j ∧ rd (mod16 xs) j ≤ 15 := fun j hj => by
      rw [rd_mod16 _ _ (by rw [HR.out.1]; exact hj)]
      omega
    have hml : (mod16 xs).length = len := by rw [mod16_length, HR.out.1]
    generalize mod16 xs = ys at *
    have Hmr := Lib.hid hmr
    have Hml := Lib.hid hml
    have Hb2 := Lib.hid (below_seq Hb1.out (Nat.le_refl _) hb2)
    have HR2 := Lib.hid hR2
    clear hown2 hb2 hR2 Hb1 hmr hml
    go_wp2_with fail
    refine (Press_calls A2 len c2 _ _ HR2.out (by omega)).mono ?_
    rintro e w3 ⟨v3, rfl, hown3, hb3⟩
    obtain ⟨A3, c3, rfl⟩ := own_slice hown3
    have Hb3 := Lib.hid (below_seq Hb2.out (Nat.le_refl _) hb3)
    have HR3 := Lib.hid (HR2.out.below hb3)
    have Hown3 := Lib.hid hown3
    have le := items_le ys
    rw [Hml.out] at le
    have hits : Hid (items ys = items ys) := rfl
    obtain ⟨its, hI⟩ : ∃ its, Hid (items ys = its) := ⟨_, rfl⟩
    rw [hI.out] at le Hown3
    rw [hI.out]
    have hs3 := hb3.size
    clear hown3 hb3 HR2 Hb2 hits
    go_wp2
    go_loopw [5, 6] (fun v i wr => ∃ (k : Nat) (pre : List Item), k ≤ len ∧ i = .int .i64 pre.length ∧ Hid (its = pre ++ itemsFrom ys ys.length k) ∧ wr.ownsRow w3.heap.size 3 1 v k (ints .i64 (ys.take k)) ∧ Below w3.heap.size w3 wr) (fun _ i _ => its.length - (intOf i).toNat)
    case atStart => exact ⟨0, [], by omega, rfl, by rw [← hI.out]; rfl, World.ownsRow_nil _ _ _ _, Below.refl _ _⟩
    case round =>
      obtain ⟨k, pre, hk, rfl, Hit, hown, hbi⟩ := hrel
      have Hown := Lib.hid hown
      have Hbi := Lib.hid hbi
      have hszi := hbi.size
      clear hown hbi
      by_cases hlt : k < len
      · have hstep := itemsFrom_step ys k (by rw [Hml.out]; exact hlt)
        have hal := Lib.hid (itemAt_alike ys k (by rw [Hml.out]; exact hlt))
        have hst := itemAt_step ys k (by rw [Hml.out]; exact hlt)
        rw [Hml.out] at hst
        have hpl : pre.length < its.length := by rw [Hit.out, hstep]; simp
        have hget : its[pre.length] = (itemAt ys k).1 := by
          simp only [Hit.out]
          rw [List.getElem_append_right (Nat.le_refl _)]
          simp [hstep]
        have Hstep := Lib.hid hstep
        clear hstep
        obtain ⟨g3, _, e3, _, _, _, hc3, _⟩ := own_form Hown3.out (by omega)
        cases e3
        obtain ⟨i0, i1, i2⟩ := itemCells_at its pre.length hpl
        rw [hget] at i0 i1 i2
        have a0 := kept_cell Hbi.out (hc3 _ _ i0)
        have a1 := kept_cell Hbi.out (hc3 _ _ i1)
        have a2 := kept_cell Hbi.out (hc3 _ _ i2)
        have hv := Hmr.out k hlt
        clear hc3 i0 i1 i2 hget
        have hkinds := itemAt_kind ys k
        obtain ⟨st, hst2⟩ : ∃ st, st = (itemAt ys k).2 := ⟨_, rfl⟩
        obtain ⟨it, hit⟩ : ∃ it, it = (itemAt ys k).1 := ⟨_, rfl⟩
        rw [← hit] at a0 a1 a2 Hstep
        rw [← hst2] at hst hal Hstep
        have Hnext : Hid (∀ v, rd ys k = v → ∀ m, m < st → ys.take (k + m + 1) = ys.take (k + m) ++ [v]) := fun v hv m hm => take_next ys k m v (by rw [Hml.out]; omega) (by rw [hal.out m hm, hv])
        clear hal
        rcases hkinds with ⟨e, he, he1, he2⟩ | ⟨e, he, he1, he2⟩ | ⟨e, he, he1, he2, he3⟩ | he
        all_goals rw [he] at hit hst2
        all_goals
          subst hit
          simp only at hst2
          subst hst2
          simp only at a0 a1 a2
        · skip
          go_wp2
          go_quiet (fail)
          go_wp2
          obtain ⟨wo, hwo⟩ : ∃ wo : World, wo = wr := ⟨_, rfl⟩
          subst hwo
          go_loopw [5, 10] (fun v i wr => ∃ m : Nat, m ≤ 11 + e ∧ i = .int .i64 m ∧ wr.ownsRow w3.heap.size 3 1 v (k + m) (ints .i64 (ys.take (k + m))) ∧ Below w3.heap.size w3 wr) (fun _ i _ => 11 + e - (intOf i).toNat)
          case atStart => exact ⟨0, by omega, rfl, Hown.out.alloc _, below_drewN (below_new Hbi.out (Nat.le_refl _) _) _⟩
          case round =>
            obtain ⟨m, hm, rfl, hown2, hbi2⟩ := hrel
            have Hown2 := Lib.hid hown2
            have Hbi2 := Lib.hid hbi2
            have hszi2 := hbi2.size
            clear hown2 hbi2
            by_cases hlt2 : m < 11 + e
            · go_wp2_with (at_builtin; refine wpList_app1 rfl _ _ rfl elInt Hown2.out rfl rfl rfl rfl (by omega) (by omega) ?_; intro v' w' hown' hbel' _)
              go_roundw
              case rel =>
                refine ⟨m + 1, by omega, by go_num, ?_, Hbi2.out.trans hbel'⟩
                rw [← Nat.add_assoc, Hnext.out 0 he2 m hlt2, ints_append]
                exact hown'
              case measure => simp [intOf]; omega
            · obtain rfl : m = 11 + e := by omega
              go_wp2
              go_roundw
              case rel => exact ⟨k + (11 + e), pre ++ [⟨18, 7, e⟩], by omega, by simp, (by show its = _; rw [Hit.out, Hstep.out, List.append_assoc]; try rfl), Hown2.out, Hbi2.out⟩
              case measure => simp [intOf]; omega
        · skip
          go_wp2
          go_quiet (fail)
          go_wp2
          obtain ⟨wo, hwo⟩ : ∃ wo : World, wo = wr := ⟨_, rfl⟩
          subst hwo
          go_loopw [5, 10] (fun v i wr => ∃ m : Nat, m ≤ 3 + e ∧ i = .int .i64 m ∧ wr.ownsRow w3.heap.size 3 1 v (k + m) (ints .i64 (ys.take (k + m))) ∧ Below w3.heap.size w3 wr) (fun _ i _ => 3 + e - (intOf i).toNat)
          case atStart => exact ⟨0, by omega, rfl, Hown.out.alloc _, below_drewN (below_new Hbi.out (Nat.le_refl _) _) _⟩
          case round =>
            obtain ⟨m, hm, rfl, hown2, hbi2⟩ := hrel
            have Hown2 := Lib.hid hown2
            have Hbi2 := Lib.hid hbi2
            have hszi2 := hbi2.size
            clear hown2 hbi2
            by_cases hlt2 : m < 3 + e
            · go_wp2_with (at_builtin; refine wpList_app1 rfl _ _ rfl elInt Hown2.out rfl rfl rfl rfl (by omega) (by omega) ?_; intro v' w' hown' hbel' _)
              go_roundw
              case rel =>
                refine ⟨m + 1, by omega, by go_num, ?_, Hbi2.out.trans hbel'⟩
                rw [← Nat.add_assoc, Hnext.out 0 he2 m hlt2, ints_append]
                exact hown'
              case measure => simp [intOf]; omega
            · obtain rfl : m = 3 + e := by omega
              go_wp2
              go_roundw
              case rel => exact ⟨k + (3 + e), pre ++ [⟨17, 3, e⟩], by omega, by simp, (by show its = _; rw [Hit.out, Hstep.out, List.append_assoc]; try rfl), Hown2.out, Hbi2.out⟩
              case measure => simp [intOf]; omega
        · obtain ⟨g5, c5, e5, _, _, _, hc5, _⟩ := own_form Hown.out (by omega)
          subst e5
          have z5 := hc5 (k - 1) _ (ints_get (by rw [List.length_take, Hml.out]; omega))
          rw [show rd (ys.take k) (k - 1) = rd ys k from by rw [rd_take _ _ _ (by omega), he3]] at z5
          have z6 := kept_new z5
          clear hc5 z5
          have s1 : IntKind.i64.wrap ((k : Int) - 1) = k - 1 := IntWalk.i64_in _ (by omega)
          have s2 : ((k : Int) - 1).toNat = k - 1 := by omega
          have s3 : 0 ≤ (k : Int) - 1 := by omega
          have s4 : (k : Int) - 1 < k := by omega
          go_wp2
          go_quiet (fail)
          go_wp2
          go_quiet (fail)
          go_wp2
          obtain ⟨wo, hwo⟩ : ∃ wo : World, wo = wr := ⟨_, rfl⟩
          subst hwo
          go_loopw [5, 10] (fun v i wr => ∃ m : Nat, m ≤ 3 + e ∧ i = .int .i64 m ∧ wr.ownsRow w3.heap.size 3 1 v (k + m) (ints .i64 (ys.take (k + m))) ∧ Below w3.heap.size w3 wr) (fun _ i _ => 3 + e - (intOf i).toNat)
          case atStart => exact ⟨0, by omega, rfl, Hown.out.alloc _, below_drewN (below_new Hbi.out (Nat.le_refl _) _) _⟩
          case round =>
            obtain ⟨m, hm, rfl, hown2, hbi2⟩ := hrel
            have Hown2 := Lib.hid hown2
            have Hbi2 := Lib.hid hbi2
            have hszi2 := hbi2.size
            clear hown2 hbi2
            by_cases hlt2 : m < 3 + e
            · go_wp2_with (at_builtin; refine wpList_app1 rfl _ _ rfl elInt Hown2.out rfl rfl rfl rfl (by omega) (by omega) ?_; intro v' w' hown' hbel' _)
              go_roundw
              case rel =>
                refine ⟨m + 1, by omega, by go_num, ?_, Hbi2.out.trans hbel'⟩
                rw [← Nat.add_assoc, Hnext.out (rd ys k) rfl m hlt2, ints_append]
                exact hown'
              case measure => simp [intOf]; omega
            · obtain rfl : m = 3 + e := by omega
              go_wp2
              go_roundw
              case rel => exact ⟨k + (3 + e), pre ++ [⟨16, 2, e⟩], by omega, by simp, (by show its = _; rw [Hit.out, Hstep.out, List.append_assoc]; try rfl), Hown2.out, Hbi2.out⟩
              case measure => simp [intOf]; omega
        · have t16 : (rd ys k == 16) = false := by simp; omega
          have t17 : (rd ys k == 17) = false := by simp; omega
          have t18 : (rd ys k == 18) = false := by simp; omega
          have t0 : decide (rd ys k < 0) = false := by simp; omega
          have t19 : decide (18 < rd ys k) = false := by simp; omega
          go_wp2
          go_quiet (fail)
          go_wp2
          obtain ⟨wo, hwo⟩ : ∃ wo : World, wo = wr := ⟨_, rfl⟩
          subst hwo
          go_loopw [5, 10] (fun v i wr => ∃ m : Nat, m ≤ 1 ∧ i = .int .i64 m ∧ wr.ownsRow w3.heap.size 3 1 v (k + m) (ints .i64 (ys.take (k + m))) ∧ Below w3.heap.size w3 wr) (fun _ i _ => 1 - (intOf i).toNat)
          case atStart => exact ⟨0, by omega, rfl, Hown.out.alloc _, below_drewN (below_new Hbi.out (Nat.le_refl _) _) _⟩
          case round =>
            obtain ⟨m, hm, rfl, hown2, hbi2⟩ := hrel
            have Hown2 := Lib.hid hown2
            have Hbi2 := Lib.hid hbi2
            have hszi2 := hbi2.size
            clear hown2 hbi2
            by_cases hlt2 : m < 1
            · go_wp2_with (at_builtin; refine wpList_app1 rfl _ _ rfl elInt Hown2.out rfl rfl rfl rfl (by omega) (by omega) ?_; intro v' w' hown' hbel' _)
              go_roundw
              case rel =>
                refine ⟨m + 1, by omega, by go_num, ?_, Hbi2.out.trans hbel'⟩
                rw [← Nat.add_assoc, Hnext.out (rd ys k) rfl m hlt2, ints_append]
                exact hown'
              case measure => simp [intOf]; omega
            · obtain rfl : m = 1 := by omega
              go_wp2
              go_roundw
              case rel => exact ⟨k + (1), pre ++ [⟨rd ys k, 0, 0⟩], by omega, by simp, (by show its = _; rw [Hit.out, Hstep.out, List.append_assoc]; try rfl), Hown2.out, Hbi2.out⟩
              case measure => simp [intOf]; omega
      · obtain rfl : k = len := by omega
        have e : its = pre := by rw [Hit.out, itemsFrom_end _ _ _ (by rw [Hml.out]; exact Nat.le_refl _), List.append_nil]
        subst e
        have hfin := Hown.out
        rw [List.take_of_length_le (by rw [Hml.out]; exact Nat.le_refl _)] at hfin
        obtain ⟨A5, c5, rfl, _, hR5⟩ := own_rd hfin
        have HR5 := Lib.hid hR5
        clear hfin hR5
        go_wp2_with fail
        refine (same8_calls _ _ _ _ _ ys _ HR5.out (HR3.out.below Hbi.out) (by omega)).mono ?_
        rintro e w6 ⟨rfl, hb6⟩
        have Hb6 := Lib.hid (below_seq (below_seq Hb3.out (Nat.le_refl _) Hbi.out) (Nat.le_refl _) hb6)
        clear hb6
        go_wp2
        go_ret
        exact ⟨rfl, Hb6.out⟩
  · go_enter Try.func4, Try.ntmps4
    go_wp2_with fail
    refine (awake8_calls _).mono ?_
    rintro e w1 ⟨rfl, hb1⟩
    have Hb1 := Lib.hid hb1
    clear hb1
    go_wp2_with fail
    refine (awake8_calls _).mono ?_
    rintro e w2 ⟨rfl, hb2⟩
    have Hb2 := Lib.hid (below_seq Hb1.out (Nat.le_refl _) hb2)
    clear hb2
    go_wp2
    go_ret
    exact ⟨rfl, Hb2.out⟩
theorem CodesSays_walk (A : Option Addr) (len cap : Nat) (z : List Int) (w : World) (h1 : IsRow .u8 w A len cap z) (h2 : len * 1 ≤ 140737488351232) :
    Calls Try.prog 4 #[.slice A len cap] w fun e w' => e = .returned (.bool true) ∧ Below w.heap.size w w' :=
  CodesSays_calls A len cap _ w h1.rd h1.u8 (by omega)
end Go.Proofs.Ytempgkglhgelkaa

