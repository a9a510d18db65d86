/-
  Texts joined into one file: RefGet.
-/
import Derived.Test.YtdbkbeojedndbaaGreatDoorJRefCo14
import Derived.Test.YtdbkbeojedndbaaGreatDoorJRefCo5
import Derived.Test.YtdbkbeojedndbaaGreatDoorJRefCo1
import Derived.Test.YtdbkbeojedndbaaGreatDoorJRefCo3
import Derived.Test.YtdbkbeojedndbaaGreatDoorJRefCo20
import Derived.Test.YtdbkbeojedndbaaGreatDoorJRefCo6
import Derived.Deep.LoopGhost
import Derived.Deep.Cut
import Derived.Deep.CutRange
import Derived.Deep.CutBlock
import Derived.Deep.DeepCutAuto
import Derived.Deep.RegionHeld3
namespace Go.Proofs.YtdbkbeojedndbaaGreatDoor
open Go.RowKit

set_option maxHeartbeats 16000000 in
set_option maxRecDepth 100000 in
theorem refGetX_calls (A : Option Addr) (m c p T : Nat) (bs : List Int) (w : World) (hA : Rd w .u8 A m (bitsOf bs p m)) (hT : T = p + m) (hm : m ≤ 8000000) (hp : p ≤ 8000000) (hc : m ≤ c) (hc2 : c ≤ 9223372036854775807) :
    Calls Tryz.prog 13 #[.slice A m c] w fun e w' =>
      ((∃ l1 l2 q A1 c1 A2 c2 A3 c3, getS bs T p = some (l1, l2, q) ∧ e = .returned (.tuple #[.slice A1 l1.length c1, .slice A2 l2.length c2, .slice A3 (T - q) c3, .int .i64 1]) ∧ Rd w' .i64 A1 l1.length l1 ∧ Rd w' .i64 A2 l2.length l2 ∧ Rd w' .u8 A3 (T - q) (bitsOf bs q (T - q)) ∧ SameB A A3 ∧ T - q ≤ c3 ∧ c3 ≤ 9223372036854775807 ∧ NewB w.heap.size A1 ∧ NewB w.heap.size A2) ∨
       (getS bs T p = none ∧ e = .returned (.tuple #[.slice none 0 0, .slice none 0 0, .slice none 0 0, .int .i64 0]))) ∧ Below w.heap.size w w' := by
  have HA := Lib.hid hA
  have HT := Lib.hid hT
  clear hA hT
  go_enter Tryz.func13, Tryz.ntmps13
  by_cases h14 : m < 14
  · have hno := Lib.hid (getS_short (bs := bs) (T := T) (p := p) (by have := HT.out; omega))
    go_wp2
    refine bodyPost_ret (v := .tuple #[.slice none 0 0, .slice none 0 0, .slice none 0 0, .int .i64 0]) (by simp [results, Tryz.results13, go_sem]) rfl ⟨.inr ⟨hno.out, rfl⟩, Below.refl _ _⟩
  · obtain ⟨b, o, rfl, _⟩ := HA.out.2 (by omega)
    go_wp2_with fail
    refine (Num_calls (some ⟨b, o, none⟩) 5 c p bs _ (bits_part HA.out 0 5 (by omega)) (by omega)).mono ?_
    rintro e w1 ⟨rfl, rfl⟩
    have ha32 := numAt_lt bs p 5
    obtain ⟨a, ha⟩ : ∃ a, numAt bs p 5 = a := ⟨_, rfl⟩
    rw [ha] at ha32 ⊢
    replace ha32 : a ≤ 31 := by omega
    have Ha := Lib.hid ha
    clear ha
    go_wp2_with fail
    refine (Num_calls (some ⟨b, o + 5, none⟩) 5 _ (p + 5) bs _ (bits_part HA.out 5 5 (by omega)) (by omega)).mono ?_
    rintro e w1 ⟨rfl, rfl⟩
    have hd32 := numAt_lt bs (p + 5) 5
    obtain ⟨d, hd⟩ : ∃ d, numAt bs (p + 5) 5 = d := ⟨_, rfl⟩
    rw [hd] at hd32 ⊢
    replace hd32 : d ≤ 31 := by omega
    have Hd := Lib.hid hd
    clear hd
    go_wp2_with fail
    refine (Num_calls (some ⟨b, o + 10, none⟩) 4 _ (p + 10) bs _ (bits_part HA.out 10 4 (by omega)) (by omega)).mono ?_
    rintro e w1 ⟨rfl, rfl⟩
    have hM32 := numAt_lt bs (p + 10) 4
    obtain ⟨M, hM⟩ : ∃ M, numAt bs (p + 10) 4 = M := ⟨_, rfl⟩
    rw [hM] at hM32 ⊢
    replace hM32 : M ≤ 15 := by omega
    have HM := Lib.hid hM
    clear hM
    go_upto_region 6 with fail
    go_cut [0] (fun v wx => ∃ A' c', v = .slice A' (m - 14) c' ∧ m - 14 ≤ c' ∧ c' ≤ 9223372036854775807 ∧ Hid (Rd w .u8 A' (m - 14) (bitsOf bs (p + 14) (m - 14))) ∧ SameB (some ⟨b, o, none⟩) A' ∧ w = wx)
    case first =>
      rcases Nat.lt_or_ge 14 c with hcap | hcap
      · go_wp2
        go_meet
        exact ⟨_, _, rfl, by omega, by omega, bits_part HA.out 14 (m - 14) (by omega), SameB.part _ _ _, rfl⟩
      · obtain rfl : c = 14 := by omega
        obtain rfl : m = 14 := by omega
        go_wp2
        go_meet
        exact ⟨_, _, rfl, by omega, by omega, bits_none _, (by first | exact SameB.none _ | exact SameB.part _ _ _), rfl⟩
    case rest =>
    obtain ⟨A1, c1, rfl, hc1, hc1b, HA1, SA1, rfl⟩ := hcut
    by_cases hbig : 29 < a ∨ 29 < d
    · have hno := Lib.hid (getS_big (bs := bs) (T := T) (p := p) (by rw [Ha.out, Hd.out]; exact hbig))
      rcases hbig with hb | hb
      · have t1 : (286 : Int) < (a : Int) + 257 := by omega
        go_wp2
        refine bodyPost_ret (v := .tuple #[.slice none 0 0, .slice none 0 0, .slice none 0 0, .int .i64 0]) (by simp [results, Tryz.results13, go_sem]) rfl ⟨.inr ⟨hno.out, rfl⟩, Below.refl _ _⟩
      · rcases Nat.lt_or_ge 29 a with hb2 | hb2
        · go_wp2
          refine bodyPost_ret (v := .tuple #[.slice none 0 0, .slice none 0 0, .slice none 0 0, .int .i64 0]) (by simp [results, Tryz.results13, go_sem]) rfl ⟨.inr ⟨hno.out, rfl⟩, Below.refl _ _⟩
        · have t2 : (a : Int) + 257 ≤ 286 := by omega
          have t3 : (30 : Int) < (d : Int) + 1 := by omega
          clear hb hb2
          go_wp2
          refine bodyPost_ret (v := .tuple #[.slice none 0 0, .slice none 0 0, .slice none 0 0, .int .i64 0]) (by simp [results, Tryz.results13, go_sem]) rfl ⟨.inr ⟨hno.out, rfl⟩, Below.refl _ _⟩
    · have ha29 : a ≤ 29 := by omega
      have hd29 : d ≤ 29 := by omega
      clear hbig
      have t2 : (a : Int) + 257 ≤ 286 := by omega
      have t3 : (d : Int) + 1 ≤ 30 := by omega
      by_cases hfew : m - 14 < 3 * (M + 4)
      · have t5 : ((m - 14 : Nat) : Int) < 3 * ((M : Int) + 4) := by omega
        have hno := Lib.hid (getS_few (bs := bs) (T := T) (p := p) (by have := HT.out; rw [HM.out]; omega))
        go_wp2
        refine bodyPost_ret (v := .tuple #[.slice none 0 0, .slice none 0 0, .slice none 0 0, .int .i64 0]) (by simp [results, Tryz.results13, go_sem]) rfl ⟨.inr ⟨hno.out, rfl⟩, Below.refl _ _⟩
      · obtain ⟨b1, o1, rfl, _⟩ := HA1.out.2 (by omega)
        have t5 : 3 * ((M : Int) + 4) ≤ ((m - 14 : Nat) : Int) := by omega
        go_wp2_with (at_make; refine wpList_mk1 (base := w.heap.size) (n := 19) _ rfl _ _ rfl elIntN rfl rfl rfl rfl (by omega) (Nat.le_refl _) ?_; intro w4 hown4 hb4 hsz4)
        have Hown4 := Lib.hid hown4
        have Hb4 := Lib.hid hb4
        clear hown4 hb4
        go_loopw [10] (fun i wr => ∃ k : Nat, k ≤ M + 4 ∧ i = .int .i64 k ∧ Hid (wr.ownsRow w.heap.size 3 1 (.slice (some ⟨w.heap.size, 0, none⟩) 19 19) 19 (ints .i64 (lensS bs (p + 14) k))) ∧ Hid (Below w.heap.size w wr)) (fun i _ => M + 4 - (intOf i).toNat)
        case atStart => exact ⟨0, by omega, rfl, Hown4.out, Hb4.out⟩
        case round =>
          obtain ⟨k, hk, rfl, Hown, Hbel⟩ := hrel
          obtain ⟨wr, hwr⟩ : ∃ W, W = wr := ⟨_, rfl⟩
          subst hwr
          by_cases hlt : k < M + 4
          · have hll := lensS_length bs (p + 14) k
            have hol := ordL_lt k
            have hnx : lensS bs (p + 14) (k + 1) = (lensS bs (p + 14) k).set (ordL.getD k 0) (numAt bs (p + 14 + 3 * k) 3 : Nat) := rfl
            have HAk := Lib.hid (bits_part (HA1.out.below Hbel.out) (3 * k) 3 (by omega))
            have hx8 := numAt_lt bs (p + 14 + 3 * k) 3
            obtain ⟨oi, hoi⟩ : ∃ oi, oi = ordL.getD k 0 := ⟨_, rfl⟩
            rw [← hoi] at hol hnx
            obtain ⟨X, hX⟩ : ∃ X, numAt bs (p + 14 + 3 * k) 3 = X := ⟨_, rfl⟩
            rw [hX] at hnx hx8
            replace hx8 : X ≤ 7 := by omega
            have HX := Lib.hid hX
            have Hoi := Lib.hid hoi
            have Hnx := Lib.hid hnx
            have z0 := Hown.out.cellAt oi (by omega)
            rw [ints_get (by rw [hll]; exact hol)] at z0
            have f0 := Hown.out.frozenAt oi
            obtain ⟨y0, hy0⟩ : ∃ y, rd (lensS bs (p + 14) k) oi = y := ⟨_, rfl⟩
            rw [hy0] at z0
            have hgb : w.heap.size < wr.heap.size := (Hown.out.lt _ rfl).2
            have s1 : (3 * (k : Int)).toNat = 3 * k := by omega
            have s2 : (3 * (k : Int) + 3).toNat = 3 * k + 3 := by omega
            have i1 : (k : Int) < (M : Int) + 4 := by omega
            have i3 : 3 * (k : Int) + 3 ≤ ((m - 14 : Nat) : Int) := by omega
            have i4 : (k : Int) < 19 := by omega
            have i6 : (oi : Int) < 19 := by omega
            have k1 : IntKind.i64.wrap (3 * (k : Int)) = 3 * (k : Int) := IntWalk.i64_in _ (by omega)
            have k2 : IntKind.i64.wrap (3 * (k : Int) + 3) = 3 * (k : Int) + 3 := IntWalk.i64_in _ (by omega)
            have j1 : 0 ≤ 3 * (k : Int) + 3 := by omega
            have j2 : 3 * (k : Int) + 3 ≤ (c1 : Int) := by omega
            have j3 : 0 ≤ 3 * (k : Int) := by omega
            have j4 : 3 * (k : Int) ≤ 3 * (k : Int) + 3 := by omega
            have j5 : ¬ c1 = 3 * k := by omega
            have j6 : 3 * k + 3 - 3 * k = 3 := by omega
            clear hnx hoi hX hll hy0
            go_upto_region 13 with fail
            refine wp_region_last (n := 15) (on := ⟨_, _, _, _, _, _⟩) (S := fun _ => True) (by kernel_rfl) rfl (by kernel_rfl) (trivial) (fun hHeld => ?_)
            refine' wpAnyH_take (i := 0) (oi := ⟨_, _, _, _, _, _⟩) rfl (by kernel_rfl) (by kernel_rfl) (by kernel_rfl) (fun _ _ _ h => h) (Or.inl ⟨by rfl, ?a0⟩) (by assumption) ?b0
            case a0 => (intro w hSw; (try dsimp only at hSw); go_simp; try with_reducible rfl)
            try simp only [Act.put, List.setIfInBounds_toArray, List.set_cons_zero, List.set_cons_succ]
            refine' wpAnyH_take (i := 2) (oi := ⟨_, _, _, _, _, _⟩) rfl (by kernel_rfl) (by kernel_rfl) (by kernel_rfl) (fun _ _ _ h => h) (Or.inl ⟨by rfl, ?a1⟩) (by assumption) ?b1
            case a1 => (intro w hSw; (try dsimp only at hSw); go_simp; try with_reducible rfl)
            try simp only [Act.put, List.setIfInBounds_toArray, List.set_cons_zero, List.set_cons_succ]
            refine' wpAnyH_take (i := 5) (oi := ⟨_, _, _, _, _, _⟩) rfl (by kernel_rfl) (by kernel_rfl) (by kernel_rfl) (fun _ _ _ h => h) (Or.inl ⟨by rfl, ?a2⟩) (by assumption) ?b2
            case a2 => (intro w hSw; (try dsimp only at hSw); go_simp; try with_reducible rfl)
            try simp only [Act.put, List.setIfInBounds_toArray, List.set_cons_zero, List.set_cons_succ]
            refine' wpAnyH_take (i := 6) (oi := ⟨_, _, _, _, _, _⟩) rfl (by kernel_rfl) (by kernel_rfl) (by kernel_rfl) (fun _ _ _ h => h) (Or.inl ⟨by rfl, ?a3⟩) (by assumption) ?b3
            case a3 => (intro w hSw; (try dsimp only at hSw); go_simp; try with_reducible rfl)
            try simp only [Act.put, List.setIfInBounds_toArray, List.set_cons_zero, List.set_cons_succ]
            refine' wpAnyH_take (i := 7) (oi := ⟨_, _, _, _, _, _⟩) rfl (by kernel_rfl) (by kernel_rfl) (by kernel_rfl) (fun _ _ _ h => h) (Or.inl ⟨by rfl, ?a4⟩) (by assumption) ?b4
            case a4 => (intro w hSw; (try dsimp only at hSw); go_simp; try with_reducible rfl)
            try simp only [Act.put, List.setIfInBounds_toArray, List.set_cons_zero, List.set_cons_succ]
            refine' wpAnyH_take (i := 8) (oi := ⟨_, _, _, _, _, _⟩) rfl (by kernel_rfl) (by kernel_rfl) (by kernel_rfl) (fun _ _ _ h => h) (Or.inl ⟨by rfl, ?a5⟩) (by assumption) ?b5
            case a5 => (intro w hSw; (try dsimp only at hSw); go_simp; try with_reducible rfl)
            try simp only [Act.put, List.setIfInBounds_toArray, List.set_cons_zero, List.set_cons_succ]
            refine' wpAnyH_take (i := 9) (oi := ⟨_, _, _, _, _, _⟩) rfl (by kernel_rfl) (by kernel_rfl) (by kernel_rfl) (fun _ _ _ h => h) (Or.inl ⟨by rfl, ?a6⟩) (by assumption) ?b6
            case a6 => (intro w hSw; (try dsimp only at hSw); go_simp; try with_reducible rfl)
            try simp only [Act.put, List.setIfInBounds_toArray, List.set_cons_zero, List.set_cons_succ]
            refine' wpAnyH_take (i := 10) (oi := ⟨_, _, _, _, _, _⟩) rfl (by kernel_rfl) (by kernel_rfl) (by kernel_rfl) (fun _ _ _ h => h) (Or.inl ⟨by rfl, ?a7⟩) (by assumption) ?b7
            case a7 => (intro w hSw; (try dsimp only at hSw); go_simp; try with_reducible rfl)
            try simp only [Act.put, List.setIfInBounds_toArray, List.set_cons_zero, List.set_cons_succ]
            refine' wpAnyH_take (i := 11) (oi := ⟨_, _, _, _, _, _⟩) rfl (by kernel_rfl) (by kernel_rfl) (by kernel_rfl) (fun _ _ _ h => h) (Or.inl ⟨by rfl, ?a8⟩) (by assumption) ?b8
            case a8 => (intro w hSw; (try dsimp only at hSw); go_simp; try with_reducible rfl)
            try simp only [Act.put, List.setIfInBounds_toArray, List.set_cons_zero, List.set_cons_succ]
            refine wpAnyH_ready (rs := [1]) (by kernel_rfl) (by simp) ?_
            refine AllReadyH.cons (o := ⟨_, _, _, _, _, _⟩) rfl (fun K hK => ?_) AllReadyH.nil
            go_simp
            go_at_call 20
            refine (order_calls _).mono ?_
            rintro e w9 ⟨g9, rfl, hc9, hb9⟩
            have Z9 := hc9 k (by omega)
            rw [← Hoi.out] at Z9
            have f9 : w9.frozen? ⟨w.heap.size, oi, none⟩ = false := (World.frozen?_of_block (hb9.block _ hgb)).trans f0
            have O9 := Lib.hid (own_below Hown.out (Below.trans (Below.refl _ _).drew hb9))
            have B9 := Lib.hid (Below.trans (Below.refl wr.heap.size wr).drew hb9)
            have z9 := kept_cell B9.out z0
            clear hc9 hb9
            refine hK.out _ _ (trivial) (fun hHeld => ?_)
            clear hK K
            try simp only [Act.put, List.setIfInBounds_toArray, List.set_cons_zero, List.set_cons_succ]
            refine' wpAnyH_take (i := 3) (oi := ⟨_, _, _, _, _, _⟩) rfl (by kernel_rfl) (by kernel_rfl) (by kernel_rfl) (fun _ _ _ h => h) (Or.inl ⟨by rfl, ?a9⟩) (by assumption) ?b9
            case a9 => (intro w hSw; (try dsimp only at hSw); go_simp; try with_reducible rfl)
            try simp only [Act.put, List.setIfInBounds_toArray, List.set_cons_zero, List.set_cons_succ]
            refine wpAnyH_ready (rs := [4, 12]) (by kernel_rfl) (by simp) ?_
            refine AllReadyH.cons (o := ⟨_, _, _, _, _, _⟩) rfl (fun K hK => ?_) (AllReadyH.cons (o := ⟨_, _, _, _, _, _⟩) rfl (fun K hK => ?_) AllReadyH.nil)
            · go_simp
              refine hK.out _ _ (trivial) (fun hHeld => ?_)
              clear hK K
              try simp only [Act.put, List.setIfInBounds_toArray, List.set_cons_zero, List.set_cons_succ]
              refine wpAnyH_ready (rs := [12]) (by kernel_rfl) (by simp) ?_
              refine AllReadyH.cons (o := ⟨_, _, _, _, _, _⟩) rfl (fun K hK => ?_) AllReadyH.nil
              go_simp
              go_at_call 10
              refine (Num_calls _ 3 _ (p + 14 + 3 * k) bs _ (Rd.below HAk.out B9.out) (by omega)).mono ?_
              rintro e w10 ⟨rfl, rfl⟩
              rw [HX.out]
              refine hK.out _ _ (trivial) (fun hHeld => ?_)
              clear hK K
              try simp only [Act.put, List.setIfInBounds_toArray, List.set_cons_zero, List.set_cons_succ]
              refine' wpAnyH_take (i := 13) (oi := ⟨_, _, _, _, _, _⟩) rfl (by kernel_rfl) (by kernel_rfl) (by kernel_rfl) (fun _ _ _ h => h) (Or.inl ⟨by rfl, ?a10⟩) (by assumption) ?b10
              case a10 => (intro w hSw; (try dsimp only at hSw); go_simp; try with_reducible rfl)
              try simp only [Act.put, List.setIfInBounds_toArray, List.set_cons_zero, List.set_cons_succ]
              refine' wpAnyH_take (i := 14) (oi := ⟨_, _, _, _, _, _⟩) rfl (by kernel_rfl) (by kernel_rfl) (by kernel_rfl) (fun _ _ _ h => h) (Or.inl ⟨by rfl, ?a11⟩) (by assumption) ?b11
              case a11 => (intro w hSw; (try dsimp only at hSw); go_simp; try with_reducible rfl)
              try simp only [Act.put, List.setIfInBounds_toArray, List.set_cons_zero, List.set_cons_succ]
              refine wpAnyH_done (by kernel_rfl) ?_ _
              change wpList _ _ _ _ _ _
              go_wp2
              go_roundw
              case rel =>
                refine ⟨k + 1, by omega, by go_num, ?_, ((Hbel.out.trans (B9.out.mono (Nat.le_of_lt hgb))).setCell (p := ⟨w.heap.size, oi, none⟩) (Nat.le_refl _) _)⟩
                have h9 := own_store O9.out oi (.int .i64 X)
                rw [← ints_set, ← Hnx.out] at h9
                exact h9
              case measure => simp [intOf]; omega
            · go_simp
              go_at_call 10
              refine (Num_calls _ 3 _ (p + 14 + 3 * k) bs _ (Rd.below HAk.out B9.out) (by omega)).mono ?_
              rintro e w10 ⟨rfl, rfl⟩
              rw [HX.out]
              refine hK.out _ _ (trivial) (fun hHeld => ?_)
              clear hK K
              try simp only [Act.put, List.setIfInBounds_toArray, List.set_cons_zero, List.set_cons_succ]
              refine' wpAnyH_take (i := 13) (oi := ⟨_, _, _, _, _, _⟩) rfl (by kernel_rfl) (by kernel_rfl) (by kernel_rfl) (fun _ _ _ h => h) (Or.inl ⟨by rfl, ?a12⟩) (by assumption) ?b12
              case a12 => (intro w hSw; (try dsimp only at hSw); go_simp; try with_reducible rfl)
              try simp only [Act.put, List.setIfInBounds_toArray, List.set_cons_zero, List.set_cons_succ]
              refine wpAnyH_ready (rs := [4]) (by kernel_rfl) (by simp) ?_
              refine AllReadyH.cons (o := ⟨_, _, _, _, _, _⟩) rfl (fun K hK => ?_) AllReadyH.nil
              go_simp
              refine hK.out _ _ (trivial) (fun hHeld => ?_)
              clear hK K
              try simp only [Act.put, List.setIfInBounds_toArray, List.set_cons_zero, List.set_cons_succ]
              refine' wpAnyH_take (i := 14) (oi := ⟨_, _, _, _, _, _⟩) rfl (by kernel_rfl) (by kernel_rfl) (by kernel_rfl) (fun _ _ _ h => h) (Or.inl ⟨by rfl, ?a13⟩) (by assumption) ?b13
              case a13 => (intro w hSw; (try dsimp only at hSw); go_simp; try with_reducible rfl)
              try simp only [Act.put, List.setIfInBounds_toArray, List.set_cons_zero, List.set_cons_succ]
              refine wpAnyH_done (by kernel_rfl) ?_ _
              change wpList _ _ _ _ _ _
              go_wp2
              go_roundw
              case rel =>
                refine ⟨k + 1, by omega, by go_num, ?_, ((Hbel.out.trans (B9.out.mono (Nat.le_of_lt hgb))).setCell (p := ⟨w.heap.size, oi, none⟩) (Nat.le_refl _) _)⟩
                have h9 := own_store O9.out oi (.int .i64 X)
                rw [← ints_set, ← Hnx.out] at h9
                exact h9
              case measure => simp [intOf]; omega
          · obtain rfl : k = M + 4 := by omega
            have hxl := Lib.hid (lensS_length bs (p + 14) (M + 4))
            obtain ⟨xs, hxs⟩ : ∃ xs, xs = lensS bs (p + 14) (M + 4) := ⟨_, rfl⟩
            rw [← hxs] at Hown hxl
            have Hxs := Lib.hid hxs
            obtain ⟨_, _, e9, _, hrx⟩ := own_rd Hown.out
            cases e9
            have HRx := Lib.hid hrx
            have HA2 := Lib.hid (HA1.out.below Hbel.out)
            clear hxs hrx
            go_upto_region 14 with fail
            go_cut [0] (fun v wx => ∃ A' c', v = .slice A' (m - 14 - 3 * (M + 4)) c' ∧ m - 14 - 3 * (M + 4) ≤ c' ∧ c' ≤ 9223372036854775807 ∧ Hid (Rd wr .u8 A' (m - 14 - 3 * (M + 4)) (bitsOf bs (p + 14 + 3 * (M + 4)) (m - 14 - 3 * (M + 4)))) ∧ SameB (some ⟨b, o, none⟩) A' ∧ wr = wx)
            case first =>
              have s1 : (3 * ((M : Int) + 4)).toNat = 3 * (M + 4) := by omega
              rcases Nat.lt_or_ge (3 * (M + 4)) c1 with hcap | hcap
              · go_wp2
                go_meet
                exact ⟨_, _, rfl, by omega, by omega, bits_part HA2.out (3 * (M + 4)) (m - 14 - 3 * (M + 4)) (by omega), SA1.move _, rfl⟩
              · obtain rfl : c1 = 3 * (M + 4) := by omega
                have e0 : m - 14 - 3 * (M + 4) = 0 := by omega
                go_wp2
                go_meet
                exact ⟨_, _, by rw [e0], by omega, by omega, (by rw [e0]; exact bits_none _), (by first | exact SameB.none _ | exact SA1.move _), rfl⟩
            case rest =>
            obtain ⟨A3, c3, rfl, hc3, hc3b, HA3, SA3, rfl⟩ := hcut
            go_wp2_with fail
            refine (refRight_calls _ 19 19 xs _ HRx.out (by omega)).mono ?_
            rintro e w5 ⟨rfl, hb5⟩
            have HR5 := Lib.hid (HRx.out.below hb5)
            have HA5 := Lib.hid (HA3.out.below hb5)
            have Hb5 := Lib.hid (below_seq Hbel.out (Nat.le_refl _) hb5)
            clear hb5
            cases hr : rightB xs
            · have hno := Lib.hid (getS_bad (bs := bs) (T := T) (p := p) (by rw [HM.out, ← Hxs.out]; exact hr))
              go_wp2
              refine bodyPost_ret (v := .tuple #[.slice none 0 0, .slice none 0 0, .slice none 0 0, .int .i64 0]) (by simp [results, Tryz.results13, go_sem]) rfl ⟨.inr ⟨hno.out, rfl⟩, Hb5.out⟩
            · have hok : lensOk xs = true := by
                unfold rightB at hr
                simp at hr
                exact hr.1
              have hgl := getS_list (bs := bs) (T := T) (p := p) (by have := HT.out; omega) Ha.out Hd.out HM.out ha29 hd29 (by rw [← Hxs.out]; exact hr)
              rw [← Hxs.out] at hgl
              have Hok := Lib.hid hok
              have Hr := Lib.hid hr
              obtain ⟨n, hn⟩ : ∃ n, n = a + 257 + (d + 1) := ⟨_, rfl⟩
              obtain ⟨q0, hq0⟩ : ∃ q0, q0 = p + 14 + 3 * (M + 4) := ⟨_, rfl⟩
              have em : m - 14 - 3 * (M + 4) = T - q0 := by have := HT.out; omega
              rw [em] at hc3 HA5 ⊢
              rw [← hn, ← hq0] at hgl
              rw [← hq0] at HA5
              obtain ⟨R, hRR⟩ : ∃ R, listS xs bs T n (n + 1) q0 [] = R := ⟨_, rfl⟩
              rw [hRR] at hgl
              have HRl : Hid (∀ l q, R = some (l, q) → l.length = n) := fun l q e => (listS_len (out := []) (by simp) (by have := HT.out; omega) (hRR.trans e)).1
              have Hgl := Lib.hid hgl
              have HRR := Lib.hid hRR
              have hn1000 : n ≤ 1000 := by omega
              have hq0T : q0 ≤ T := by have := HT.out; omega
              have hTb : T ≤ q0 + 8000000 := by have := HT.out; omega
              have hTb2 : T ≤ 16000000 := by have := HT.out; omega
              have h258 : 258 ≤ n := by omega
              have Hn := Lib.hid hn
              have Hq0 := Lib.hid hq0
              clear hn hq0
              clear hok hr hgl hRR em HA3 HA2 HA1 HA Hown4 Hb4 Hown Hbel HRx
              go_wp2
              go_loopg [0, 11] (n + 1) (fun g bv v wy => ∃ (out : List Int) (q : Nat) (A' : Option Addr) (c' : Nat), Hid (listS xs bs T n g q out = R) ∧ out.length ≤ n ∧ n < out.length + g ∧ q ≤ T ∧ q0 ≤ q ∧ bv = .slice A' (T - q) c' ∧ T - q ≤ c' ∧ c' ≤ 9223372036854775807 ∧ Hid (Rd w5 .u8 A' (T - q) (bitsOf bs q (T - q))) ∧ SameB (some ⟨b, o, none⟩) A' ∧ Hid (wy.ownsRow w5.heap.size 3 1 v out.length (ints .i64 out)) ∧ Hid (Below w5.heap.size w5 wy))
              case atStart => exact ⟨[], q0, A3, c3, HRR.out, by simp, by simp, hq0T, Nat.le_refl _, rfl, hc3, hc3b, HA5.out, SA3, World.ownsRow_nil _ _ _ _, Below.refl _ _⟩
              case round =>
                obtain ⟨out, q, A6, c6, HL, hol, hg, hq, hqq, rfl, hc6, hc6b, HA6, SA6, Hown, Hbel⟩ := hrel
                obtain ⟨g, hg'⟩ : ∃ g, gk = g + 1 := ⟨gk - 1, by omega⟩
                rw [hg'] at HL
                have hsz := Hbel.out.size
                obtain ⟨A7, c7, rfl⟩ := own_slice Hown.out
                by_cases hlt2 : out.length < n
                · have hn0 : ¬ n ≤ out.length := by omega
                  have i2 : (out.length : Int) < (a : Int) + 257 + ((d : Int) + 1) := by have := Hn.out; omega
                  go_wp2_with fail
                  refine (refNext_calls _ 19 19 xs A6 (T - q) c6 q _ bs _ (HR5.out.below Hbel.out) (by omega) Hok.out (HA6.out.below Hbel.out) (fun i hi => rd_bitsOf hi) (by omega)).mono ?_
                  rintro e wa ⟨hx, hba⟩
                  have Hba := Lib.hid (below_seq Hbel.out (Nat.le_refl _) hba)
                  have Hown2 := Lib.hid (own_below Hown.out hba)
                  have hsza := Hba.out.size
                  clear hba
                  rcases hx with ⟨s, hs, rfl⟩ | ⟨hno, rfl⟩
                  · have Hs := Lib.hid hs
                    have hs19 : s < 19 := by have := hs.1; rw [hxl.out] at this; exact this
                    have hm2 := hs.2.2.2.1
                    have hpos := hs.2.1
                    obtain ⟨L, hL⟩ : ∃ L : Nat, rd xs s = L := ⟨(rd xs s).toNat, by omega⟩
                    rw [hL] at hpos ⊢
                    rw [hL, Int.toNat_natCast] at hm2
                    have HLn : Hid ((rd xs s).toNat = L) := by show (rd xs s).toNat = L; rw [hL]; exact Int.toNat_natCast _
                    obtain ⟨b6, o6, rfl, _⟩ := HA6.out.2 (by omega)
                    clear hs hL
                    go_upto_region 22 with fail
                    go_cut [0] (fun v wx => ∃ A' c', v = .slice A' (T - (q + L)) c' ∧ T - (q + L) ≤ c' ∧ c' ≤ 9223372036854775807 ∧ Hid (Rd w5 .u8 A' (T - (q + L)) (bitsOf bs (q + L) (T - (q + L)))) ∧ SameB (some ⟨b, o, none⟩) A' ∧ wa = wx)
                    case first =>
                      rcases Nat.lt_or_ge L c6 with hcap | hcap
                      · go_wp2
                        go_meet
                        exact ⟨_, _, by rw [Nat.sub_sub], by omega, by omega, bits_part HA6.out L (T - (q + L)) (by omega), SA6.move _, rfl⟩
                      · obtain rfl : c6 = L := by omega
                        have e0 : T - (q + c6) = 0 := by omega
                        go_wp2
                        go_meet
                        exact ⟨_, _, by rw [e0], by omega, by omega, (by rw [e0]; exact bits_none _), (by first | exact SameB.none _ | exact SA6.move _ | exact SA8.move _), rfl⟩
                    case rest =>
                    obtain ⟨A8, c8, rfl, hc8, hc8b, HA8, SA8, rfl⟩ := hcut
                    by_cases h16 : s < 16
                    · have HL2 := listS_low hn0 Hs.out h16 (f := g)
                      rw [HL.out, HLn.out] at HL2
                      have HL3 := Lib.hid HL2.symm
                      clear HL2
                      go_wp2_with (at_builtin; refine wpList_app3 rfl _ _ rfl elIntN Hown2.out rfl rfl rfl rfl rfl (by omega) hsza ?_; intro g7 cap7 w7 hown7 hfr7 hat7 hlt7)
                      go_roundg g
                      case measure => omega
                      case rel => exact ⟨out ++ [(s : Int)], q + L, A8, c8, HL3.out, by simp; omega, by simp; omega, by omega, by omega, rfl, hc8, hc8b, HA8.out, SA8, by rw [List.length_append, ints_append]; exact hown7, Hba.out.trans (hfr7.below hsza (own_far Hown2.out (Nat.le_refl _)))⟩
                    · have hs3 : s = 16 ∨ s = 17 ∨ s = 18 := by omega
                      rcases hs3 with rfl | rfl | rfl
                      · by_cases h00 : out.length = 0
                        · have hRn : R = none := by rw [← HL.out]; exact listS_first hn0 Hs.out rfl h00
                          have hno2 : getS bs T p = none := by rw [Hgl.out, hRn]
                          have Hno := Lib.hid hno2
                          clear hRn hno2
                          rw [h00] at hn0 hlt2 ⊢
                          go_wp2
                          refine bodyPost_ret (v := .tuple #[.slice none 0 0, .slice none 0 0, .slice none 0 0, .int .i64 0]) (by simp [results, Tryz.results13, go_sem]) rfl ⟨.inr ⟨Hno.out, rfl⟩, Hb5.out.trans (Hba.out.mono Hb5.out.size)⟩
                        · obtain ⟨ga, ca, e7, _, _, _, hac, _⟩ := own_form Hown2.out (by omega)
                          cases e7
                          have z := hac (out.length - 1) _ (ints_get (by omega))
                          have s9 : ((out.length : Int) - 1).toNat = out.length - 1 := by omega
                          have hneq : ((out.length : Int) == 0) = false := by rw [beq_eq_false_iff_ne]; omega
                          obtain ⟨V, hV⟩ : ∃ V, rd out (out.length - 1) = V := ⟨_, rfl⟩
                          rw [hV] at z
                          clear hac
                          by_cases hTs : T < q + L + 2
                          · have hRn : R = none := by rw [← HL.out]; exact listS_short hn0 Hs.out h16 (by rw [HLn.out]; exact hTs)
                            have hno2 : getS bs T p = none := by rw [Hgl.out, hRn]
                            have Hno := Lib.hid hno2
                            clear hRn hno2
                            go_wp2
                            refine bodyPost_ret (v := .tuple #[.slice none 0 0, .slice none 0 0, .slice none 0 0, .int .i64 0]) (by simp [results, Tryz.results13, go_sem]) rfl ⟨.inr ⟨Hno.out, rfl⟩, Hb5.out.trans (Hba.out.mono Hb5.out.size)⟩
                          · obtain ⟨b8, o8, rfl, _⟩ := HA8.out.2 (by omega)
                            go_wp2_with fail
                            refine (Num_calls (some ⟨b8, o8, none⟩) 2 _ (q + L) bs _ (Rd.below (bits_part HA8.out 0 2 (by omega)) Hba.out) (by omega)).mono ?_
                            rintro e wb ⟨rfl, rfl⟩
                            have hX128 := numAt_lt bs (q + L) 2
                            obtain ⟨X, hX⟩ : ∃ X, numAt bs (q + L) 2 = X := ⟨_, rfl⟩
                            rw [hX] at hX128 ⊢
                            replace hX128 : X ≤ 127 := by omega
                            have hmany : manyS bs (q + L) 16 = 3 + X := by rw [← hX]; rfl
                            have HX := Lib.hid hmany
                            clear hX hmany
                            go_upto_region 37 with fail
                            go_cut [0] (fun v wx => ∃ A' c', v = .slice A' (T - (q + L + 2)) c' ∧ T - (q + L + 2) ≤ c' ∧ c' ≤ 9223372036854775807 ∧ Hid (Rd w5 .u8 A' (T - (q + L + 2)) (bitsOf bs (q + L + 2) (T - (q + L + 2)))) ∧ SameB (some ⟨b, o, none⟩) A' ∧ wa = wx)
                            case first =>
                              rcases Nat.lt_or_ge 2 c8 with hcap | hcap
                              · go_wp2
                                go_meet
                                exact ⟨_, _, by rw [Nat.sub_sub], by omega, by omega, bits_part HA8.out 2 (T - (q + L + 2)) (by omega), SA8.move _, rfl⟩
                              · obtain rfl : c8 = 2 := by omega
                                have e0 : T - (q + L + 2) = 0 := by omega
                                go_wp2
                                go_meet
                                exact ⟨_, _, by rw [e0], by omega, by omega, (by rw [e0]; exact bits_none _), (by first | exact SameB.none _ | exact SA6.move _ | exact SA8.move _), rfl⟩
                            case rest =>
                            obtain ⟨A9, c9, rfl, hc9, hc9b, HA9, SA9, rfl⟩ := hcut
                            by_cases hlong : n < out.length + (3 + X)
                            · have i5 : (a : Int) + 257 + ((d : Int) + 1) < (out.length : Int) + (3 + (X : Int)) := by have := Hn.out; omega
                              have hRn : R = none := by rw [← HL.out]; exact listS_long hn0 Hs.out h16 (by rw [HLn.out, HX.out]; exact hlong)
                              have hno2 : getS bs T p = none := by rw [Hgl.out, hRn]
                              have Hno := Lib.hid hno2
                              clear hRn hno2
                              go_wp2
                              refine bodyPost_ret (v := .tuple #[.slice none 0 0, .slice none 0 0, .slice none 0 0, .int .i64 0]) (by simp [results, Tryz.results13, go_sem]) rfl ⟨.inr ⟨Hno.out, rfl⟩, Hb5.out.trans (Hba.out.mono Hb5.out.size)⟩
                            · have i5 : (out.length : Int) + (3 + (X : Int)) ≤ (a : Int) + 257 + ((d : Int) + 1) := by have := Hn.out; omega
                              have HL2 := listS_more hn0 Hs.out h16 (by omega) (by rw [HLn.out]; show ¬ T < q + L + 2; omega) (by rw [HLn.out, HX.out]; exact hlong) (f := g)
                              rw [HL.out, HLn.out, HX.out, show sizeS 16 = 2 from rfl, show valueS out 16 = rd out (out.length - 1) from rfl] at HL2
                              rw [hV] at HL2
                              have HL3 := Lib.hid HL2.symm
                              clear HL2
                              go_wp2
                              go_loopg [11, 18] (3 + X) (fun g2 v i wy => ∃ j : Nat, j + g2 = 3 + X ∧ i = .int .i64 j ∧ Hid (wy.ownsRow w5.heap.size 3 1 v (out.length + j) (ints .i64 (out ++ List.replicate j V))) ∧ Hid (Below w5.heap.size w5 wy))
                              case atStart => exact ⟨0, by omega, rfl, by rw [List.replicate_zero, List.append_nil]; exact Hown2.out, Hba.out⟩
                              case round =>
                                obtain ⟨j, hj, rfl, Hoy, Hby⟩ := hrel
                                have hszy := Hby.out.size
                                obtain ⟨A5, c5, rfl⟩ := own_slice Hoy.out
                                by_cases hlt5 : j < 3 + X
                                · go_wp2_with (at_builtin; refine wpList_app3 rfl _ _ rfl elIntN Hoy.out rfl rfl rfl rfl rfl (by omega) hszy ?_; intro g7 cap7 w7 hown7 hfr7 hat7 hlt7)
                                  go_roundg (gk - 1)
                                  case measure => omega
                                  case rel => exact ⟨j + 1, by omega, by go_num, by rw [List.replicate_succ', ← List.append_assoc, ints_append]; exact hown7, Hby.out.trans (hfr7.below hszy (own_far Hoy.out (Nat.le_refl _)))⟩
                                · obtain rfl : j = 3 + X := by omega
                                  go_wp2
                                  go_roundg g
                                  case measure => omega
                                  case rel => exact ⟨out ++ List.replicate (3 + X) V, q + L + 2, A9, c9, HL3.out, by simp; omega, by simp; omega, by omega, by omega, rfl, hc9, hc9b, HA9.out, SA9, by rw [List.length_append, List.length_replicate]; exact Hoy.out, Hby.out⟩
                      · by_cases hTs : T < q + L + 3
                        · have hRn : R = none := by rw [← HL.out]; exact listS_short hn0 Hs.out h16 (by rw [HLn.out]; exact hTs)
                          have hno2 : getS bs T p = none := by rw [Hgl.out, hRn]
                          have Hno := Lib.hid hno2
                          clear hRn hno2
                          go_wp2
                          refine bodyPost_ret (v := .tuple #[.slice none 0 0, .slice none 0 0, .slice none 0 0, .int .i64 0]) (by simp [results, Tryz.results13, go_sem]) rfl ⟨.inr ⟨Hno.out, rfl⟩, Hb5.out.trans (Hba.out.mono Hb5.out.size)⟩
                        · obtain ⟨b8, o8, rfl, _⟩ := HA8.out.2 (by omega)
                          go_wp2_with fail
                          refine (Num_calls (some ⟨b8, o8, none⟩) 3 _ (q + L) bs _ (Rd.below (bits_part HA8.out 0 3 (by omega)) Hba.out) (by omega)).mono ?_
                          rintro e wb ⟨rfl, rfl⟩
                          have hX128 := numAt_lt bs (q + L) 3
                          obtain ⟨X, hX⟩ : ∃ X, numAt bs (q + L) 3 = X := ⟨_, rfl⟩
                          rw [hX] at hX128 ⊢
                          replace hX128 : X ≤ 127 := by omega
                          have hmany : manyS bs (q + L) 17 = 3 + X := by rw [← hX]; rfl
                          have HX := Lib.hid hmany
                          clear hX hmany
                          go_upto_region 37 with fail
                          go_cut [0] (fun v wx => ∃ A' c', v = .slice A' (T - (q + L + 3)) c' ∧ T - (q + L + 3) ≤ c' ∧ c' ≤ 9223372036854775807 ∧ Hid (Rd w5 .u8 A' (T - (q + L + 3)) (bitsOf bs (q + L + 3) (T - (q + L + 3)))) ∧ SameB (some ⟨b, o, none⟩) A' ∧ wa = wx)
                          case first =>
                            rcases Nat.lt_or_ge 3 c8 with hcap | hcap
                            · go_wp2
                              go_meet
                              exact ⟨_, _, by rw [Nat.sub_sub], by omega, by omega, bits_part HA8.out 3 (T - (q + L + 3)) (by omega), SA8.move _, rfl⟩
                            · obtain rfl : c8 = 3 := by omega
                              have e0 : T - (q + L + 3) = 0 := by omega
                              go_wp2
                              go_meet
                              exact ⟨_, _, by rw [e0], by omega, by omega, (by rw [e0]; exact bits_none _), (by first | exact SameB.none _ | exact SA6.move _ | exact SA8.move _), rfl⟩
                          case rest =>
                          obtain ⟨A9, c9, rfl, hc9, hc9b, HA9, SA9, rfl⟩ := hcut
                          by_cases hlong : n < out.length + (3 + X)
                          · have i5 : (a : Int) + 257 + ((d : Int) + 1) < (out.length : Int) + (3 + (X : Int)) := by have := Hn.out; omega
                            have hRn : R = none := by rw [← HL.out]; exact listS_long hn0 Hs.out h16 (by rw [HLn.out, HX.out]; exact hlong)
                            have hno2 : getS bs T p = none := by rw [Hgl.out, hRn]
                            have Hno := Lib.hid hno2
                            clear hRn hno2
                            go_wp2
                            refine bodyPost_ret (v := .tuple #[.slice none 0 0, .slice none 0 0, .slice none 0 0, .int .i64 0]) (by simp [results, Tryz.results13, go_sem]) rfl ⟨.inr ⟨Hno.out, rfl⟩, Hb5.out.trans (Hba.out.mono Hb5.out.size)⟩
                          · have i5 : (out.length : Int) + (3 + (X : Int)) ≤ (a : Int) + 257 + ((d : Int) + 1) := by have := Hn.out; omega
                            have HL2 := listS_more hn0 Hs.out h16 (by omega) (by rw [HLn.out]; show ¬ T < q + L + 3; omega) (by rw [HLn.out, HX.out]; exact hlong) (f := g)
                            rw [HL.out, HLn.out, HX.out, show sizeS 17 = 3 from rfl, show valueS out 17 = 0 from rfl] at HL2
                            obtain ⟨V, hV⟩ : ∃ V : Int, V = 0 := ⟨_, rfl⟩
                            rw [← hV] at HL2
                            have HL3 := Lib.hid HL2.symm
                            clear HL2
                            go_wp2
                            go_loopg [11, 18] (3 + X) (fun g2 v i wy => ∃ j : Nat, j + g2 = 3 + X ∧ i = .int .i64 j ∧ Hid (wy.ownsRow w5.heap.size 3 1 v (out.length + j) (ints .i64 (out ++ List.replicate j V))) ∧ Hid (Below w5.heap.size w5 wy))
                            case atStart => exact ⟨0, by omega, rfl, by rw [List.replicate_zero, List.append_nil]; exact Hown2.out, Hba.out⟩
                            case round =>
                              obtain ⟨j, hj, rfl, Hoy, Hby⟩ := hrel
                              have hszy := Hby.out.size
                              obtain ⟨A5, c5, rfl⟩ := own_slice Hoy.out
                              by_cases hlt5 : j < 3 + X
                              · go_wp2_with (at_builtin; refine wpList_app3 rfl _ _ rfl elIntN Hoy.out rfl rfl rfl rfl rfl (by omega) hszy ?_; intro g7 cap7 w7 hown7 hfr7 hat7 hlt7)
                                go_roundg (gk - 1)
                                case measure => omega
                                case rel => exact ⟨j + 1, by omega, by go_num, by rw [List.replicate_succ', ← List.append_assoc, ints_append]; rw [hV] at hown7 ⊢; exact hown7, Hby.out.trans (hfr7.below hszy (own_far Hoy.out (Nat.le_refl _)))⟩
                              · obtain rfl : j = 3 + X := by omega
                                go_wp2
                                go_roundg g
                                case measure => omega
                                case rel => exact ⟨out ++ List.replicate (3 + X) V, q + L + 3, A9, c9, HL3.out, by simp; omega, by simp; omega, by omega, by omega, rfl, hc9, hc9b, HA9.out, SA9, by rw [List.length_append, List.length_replicate]; exact Hoy.out, Hby.out⟩
                      · by_cases hTs : T < q + L + 7
                        · have hRn : R = none := by rw [← HL.out]; exact listS_short hn0 Hs.out h16 (by rw [HLn.out]; exact hTs)
                          have hno2 : getS bs T p = none := by rw [Hgl.out, hRn]
                          have Hno := Lib.hid hno2
                          clear hRn hno2
                          go_wp2
                          refine bodyPost_ret (v := .tuple #[.slice none 0 0, .slice none 0 0, .slice none 0 0, .int .i64 0]) (by simp [results, Tryz.results13, go_sem]) rfl ⟨.inr ⟨Hno.out, rfl⟩, Hb5.out.trans (Hba.out.mono Hb5.out.size)⟩
                        · obtain ⟨b8, o8, rfl, _⟩ := HA8.out.2 (by omega)
                          go_wp2_with fail
                          refine (Num_calls (some ⟨b8, o8, none⟩) 7 _ (q + L) bs _ (Rd.below (bits_part HA8.out 0 7 (by omega)) Hba.out) (by omega)).mono ?_
                          rintro e wb ⟨rfl, rfl⟩
                          have hX128 := numAt_lt bs (q + L) 7
                          obtain ⟨X, hX⟩ : ∃ X, numAt bs (q + L) 7 = X := ⟨_, rfl⟩
                          rw [hX] at hX128 ⊢
                          replace hX128 : X ≤ 127 := by omega
                          have hmany : manyS bs (q + L) 18 = 11 + X := by rw [← hX]; rfl
                          have HX := Lib.hid hmany
                          clear hX hmany
                          go_upto_region 37 with fail
                          go_cut [0] (fun v wx => ∃ A' c', v = .slice A' (T - (q + L + 7)) c' ∧ T - (q + L + 7) ≤ c' ∧ c' ≤ 9223372036854775807 ∧ Hid (Rd w5 .u8 A' (T - (q + L + 7)) (bitsOf bs (q + L + 7) (T - (q + L + 7)))) ∧ SameB (some ⟨b, o, none⟩) A' ∧ wa = wx)
                          case first =>
                            rcases Nat.lt_or_ge 7 c8 with hcap | hcap
                            · go_wp2
                              go_meet
                              exact ⟨_, _, by rw [Nat.sub_sub], by omega, by omega, bits_part HA8.out 7 (T - (q + L + 7)) (by omega), SA8.move _, rfl⟩
                            · obtain rfl : c8 = 7 := by omega
                              have e0 : T - (q + L + 7) = 0 := by omega
                              go_wp2
                              go_meet
                              exact ⟨_, _, by rw [e0], by omega, by omega, (by rw [e0]; exact bits_none _), (by first | exact SameB.none _ | exact SA6.move _ | exact SA8.move _), rfl⟩
                          case rest =>
                          obtain ⟨A9, c9, rfl, hc9, hc9b, HA9, SA9, rfl⟩ := hcut
                          by_cases hlong : n < out.length + (11 + X)
                          · have i5 : (a : Int) + 257 + ((d : Int) + 1) < (out.length : Int) + (11 + (X : Int)) := by have := Hn.out; omega
                            have hRn : R = none := by rw [← HL.out]; exact listS_long hn0 Hs.out h16 (by rw [HLn.out, HX.out]; exact hlong)
                            have hno2 : getS bs T p = none := by rw [Hgl.out, hRn]
                            have Hno := Lib.hid hno2
                            clear hRn hno2
                            go_wp2
                            refine bodyPost_ret (v := .tuple #[.slice none 0 0, .slice none 0 0, .slice none 0 0, .int .i64 0]) (by simp [results, Tryz.results13, go_sem]) rfl ⟨.inr ⟨Hno.out, rfl⟩, Hb5.out.trans (Hba.out.mono Hb5.out.size)⟩
                          · have i5 : (out.length : Int) + (11 + (X : Int)) ≤ (a : Int) + 257 + ((d : Int) + 1) := by have := Hn.out; omega
                            have HL2 := listS_more hn0 Hs.out h16 (by omega) (by rw [HLn.out]; show ¬ T < q + L + 7; omega) (by rw [HLn.out, HX.out]; exact hlong) (f := g)
                            rw [HL.out, HLn.out, HX.out, show sizeS 18 = 7 from rfl, show valueS out 18 = 0 from rfl] at HL2
                            obtain ⟨V, hV⟩ : ∃ V : Int, V = 0 := ⟨_, rfl⟩
                            rw [← hV] at HL2
                            have HL3 := Lib.hid HL2.symm
                            clear HL2
                            go_wp2
                            go_loopg [11, 18] (11 + X) (fun g2 v i wy => ∃ j : Nat, j + g2 = 11 + X ∧ i = .int .i64 j ∧ Hid (wy.ownsRow w5.heap.size 3 1 v (out.length + j) (ints .i64 (out ++ List.replicate j V))) ∧ Hid (Below w5.heap.size w5 wy))
                            case atStart => exact ⟨0, by omega, rfl, by rw [List.replicate_zero, List.append_nil]; exact Hown2.out, Hba.out⟩
                            case round =>
                              obtain ⟨j, hj, rfl, Hoy, Hby⟩ := hrel
                              have hszy := Hby.out.size
                              obtain ⟨A5, c5, rfl⟩ := own_slice Hoy.out
                              by_cases hlt5 : j < 11 + X
                              · go_wp2_with (at_builtin; refine wpList_app3 rfl _ _ rfl elIntN Hoy.out rfl rfl rfl rfl rfl (by omega) hszy ?_; intro g7 cap7 w7 hown7 hfr7 hat7 hlt7)
                                go_roundg (gk - 1)
                                case measure => omega
                                case rel => exact ⟨j + 1, by omega, by go_num, by rw [List.replicate_succ', ← List.append_assoc, ints_append]; rw [hV] at hown7 ⊢; exact hown7, Hby.out.trans (hfr7.below hszy (own_far Hoy.out (Nat.le_refl _)))⟩
                              · obtain rfl : j = 11 + X := by omega
                                go_wp2
                                go_roundg g
                                case measure => omega
                                case rel => exact ⟨out ++ List.replicate (11 + X) V, q + L + 7, A9, c9, HL3.out, by simp; omega, by simp; omega, by omega, by omega, rfl, hc9, hc9b, HA9.out, SA9, by rw [List.length_append, List.length_replicate]; exact Hoy.out, Hby.out⟩
                  · have hRn : R = none := by rw [← HL.out]; exact listS_no hn0 hno
                    have hno2 : getS bs T p = none := by rw [Hgl.out, hRn]
                    have Hno := Lib.hid hno2
                    clear hRn hno2
                    go_wp2
                    refine bodyPost_ret (v := .tuple #[.slice none 0 0, .slice none 0 0, .slice none 0 0, .int .i64 0]) (by simp [results, Tryz.results13, go_sem]) rfl ⟨.inr ⟨Hno.out, rfl⟩, Hb5.out.trans (Hba.out.mono Hb5.out.size)⟩
                · have i2 : (a : Int) + 257 + ((d : Int) + 1) ≤ (out.length : Int) := by have := Hn.out; omega
                  have hRn : R = some (out, q) := by rw [← HL.out]; exact listS_done (by omega) (by omega)
                  have hgo := Hgl.out
                  rw [hRn] at hgo
                  have Hgo := Lib.hid hgo
                  clear hRn hgo
                  obtain ⟨go, co, e7, hgo5, _, hco, hoc, _⟩ := own_form Hown.out (by omega)
                  cases e7
                  have hgoB : w.heap.size ≤ go := Nat.le_trans Hb5.out.size hgo5
                  clear hgo5
                  have z := hoc 256 _ (ints_get (by omega))
                  obtain ⟨_, _, e8, _, hro⟩ := own_rd Hown.out
                  cases e8
                  have Hro := Lib.hid hro
                  have hon : out.length = a + 257 + (d + 1) := by have := Hn.out; omega
                  have HR6 := Lib.hid (HA6.out.below Hbel.out)
                  have HW := Lib.hid (Hb5.out.trans (Hbel.out.mono Hb5.out.size))
                  obtain ⟨y, hy⟩ : ∃ y, rd out 256 = y := ⟨_, rfl⟩
                  rw [hy] at z
                  have Hy := Lib.hid hy
                  clear hoc hro hy
                  by_cases hy0 : y = 0
                  · have hno2 : getS bs T p = none := by rw [Hgo.out]; simp [Hy.out, hy0]
                    have Hno := Lib.hid hno2
                    subst hy0
                    clear hno2
                    go_wp2
                    refine bodyPost_ret (v := .tuple #[.slice none 0 0, .slice none 0 0, .slice none 0 0, .int .i64 0]) (by simp [results, Tryz.results13, go_sem]) rfl ⟨.inr ⟨Hno.out, rfl⟩, HW.out⟩
                  · have hyes : getS bs T p = some (out.take (a + 257), out.drop (a + 257), q) := by rw [Hgo.out]; simp [Hy.out, hy0]
                    have Hyes := Lib.hid hyes
                    have d0 : (y == 0) = false := by simpa using hy0
                    have s1 : ((a : Int) + 257).toNat = a + 257 := by omega
                    have f1 := rd_front Hro.out (a + 257) (by omega)
                    have f2 := rd_back Hro.out (a + 257) (by omega)
                    have l1 : (out.take (a + 257)).length = a + 257 := by rw [List.length_take]; omega
                    have e2 : out.length - (a + 257) = d + 1 := by omega
                    rw [e2] at f2
                    have l2 : (out.drop (a + 257)).length = d + 1 := by rw [List.length_drop]; omega
                    have F1 := Lib.hid f1
                    have F2 := Lib.hid f2
                    have L1 := Lib.hid l1
                    have L2 := Lib.hid l2
                    clear hyes f1 f2 l1 l2
                    go_wp2
                    go_region
                    go_wp2
                    refine bodyPost_ret (v := .tuple #[.slice (some ⟨go, 0, none⟩) (a + 257) c7, .slice (some ⟨go, 0 + (a + 257), none⟩) (d + 1) (c7 - (a + 257)), .slice A6 (T - q) c6, .int .i64 1]) (by simp [results, Tryz.results13, go_sem]) rfl ⟨.inl ⟨_, _, q, _, _, _, _, _, _, Hyes.out, by rw [L1.out, L2.out], ?_, ?_, (HR6.out.drew), SA6, hc6, hc6b, ?_, ?_⟩, HW.out.drew⟩
                    · rw [L1.out]; exact F1.out.drew
                    · rw [L2.out]; exact F2.out.drew
                    · exact fun b2 o2 e => by cases e; exact hgoB
                    · exact fun b2 o2 e => by cases e; exact hgoB
theorem refGet_calls (A : Option Addr) (m c p T : Nat) (bs : List Int) (w : World) (hA : Rd w .u8 A m (bitsOf bs p m)) (hT : T = p + m) (hm : m ≤ 8000000) (hp : p ≤ 8000000) (hc : m ≤ c) (hc2 : c ≤ 9223372036854775807) :
    Calls Tryz.prog 13 #[.slice A m c] w fun e w' =>
      ((∃ l1 l2 q A1 c1 A2 c2 A3 c3, getS bs T p = some (l1, l2, q) ∧ e = .returned (.tuple #[.slice A1 l1.length c1, .slice A2 l2.length c2, .slice A3 (T - q) c3, .int .i64 1]) ∧ Rd w' .i64 A1 l1.length l1 ∧ Rd w' .i64 A2 l2.length l2 ∧ Rd w' .u8 A3 (T - q) (bitsOf bs q (T - q))) ∨
       (getS bs T p = none ∧ e = .returned (.tuple #[.slice none 0 0, .slice none 0 0, .slice none 0 0, .int .i64 0]))) ∧ Below w.heap.size w w' :=
  (refGetX_calls A m c p T bs w hA hT hm hp hc hc2).mono (fun e w' h => by
    obtain ⟨h1, hb⟩ := h
    refine ⟨?_, hb⟩
    rcases h1 with ⟨l1, l2, q, A1, c1, A2, c2, A3, c3, g1, g2, g3, g4, g5, _⟩ | h2
    · exact .inl ⟨l1, l2, q, A1, c1, A2, c2, A3, c3, g1, g2, g3, g4, g5⟩
    · exact .inr h2)
end Go.Proofs.YtdbkbeojedndbaaGreatDoor
