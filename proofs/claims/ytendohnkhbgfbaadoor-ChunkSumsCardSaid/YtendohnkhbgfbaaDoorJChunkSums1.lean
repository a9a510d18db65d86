/-
  Texts joined into one file: NumW, RefChN.
-/
import Derived.Test.YtendohnkhbgfbaaDoorJGetW1
import Derived.Test.YtendohnkhbgfbaaDoorJBytZ1
import Derived.Test.YtendohnkhbgfbaaDoorJRefShaD4
import Derived.Deep.RegionHeld3
import Derived.Deep.Cut
import Derived.Deep.CutRange
import Derived.Deep.CutBlock
import Derived.Test.YtendohnkhbgfbaaDoorJRefShaD5
/-
  The walk of the reference's Num. Printed by gen_num.py.
-/
namespace Go.Proofs.YtendohnkhbgfbaaDoor
open Go.RowKit

theorem nums_strOf {l : List Int} (h : ∀ x ∈ l, 0 ≤ x ∧ x ≤ 255) : nums (strOfNums l) = l := by
  unfold nums strOfNums
  show ((l.map fun n => UInt8.ofNat n.toNat).toArray.toList).map _ = l
  rw [List.toList_toArray, List.map_map]
  conv => rhs; rw [← List.map_id l]
  refine List.map_congr_left (fun x hx => ?_)
  have := h x hx
  show ((UInt8.ofNat x.toNat).toNat : Int) = x
  rw [UInt8.toNat_ofNat_of_lt' (by show _ < 256; omega)]
  omega
theorem strOf_inj {l m : List Int} (hl : ∀ x ∈ l, 0 ≤ x ∧ x ≤ 255) (hm : ∀ x ∈ m, 0 ≤ x ∧ x ≤ 255) : strOfNums l = strOfNums m ↔ l = m :=
  ⟨fun e => by rw [← nums_strOf hl, e, nums_strOf hm], fun e => by rw [e]⟩
theorem valB_drop {l : List Int} {j : Nat} (h : j < l.length) : valB (l.drop j) = (rd l j % 128).toNat + 128 * valB (l.drop (j + 1)) := by
  rw [List.drop_eq_getElem_cons h, valB, rd_getElem h]
set_option maxHeartbeats 1000000 in
set_option maxRecDepth 100000 in
theorem Num18_calls (A : Option Addr) (n c : Nat) (b : List Int) (w : World) (hR : Rd w .u8 A n b) (hA : A = none → n = 0 ∧ c = 0) (hc : n ≤ c) (hb : ∀ x ∈ b, 0 ≤ x ∧ x ≤ 255) (hn : n ≤ 1000000) :
    Calls Tryd.prog 24 #[.slice A n c] w fun e w' => ∃ (v k : Nat) (f : Int), e = .returned (.tuple #[.int .u64 v, .int .i64 k, .int .i64 f]) ∧ Hid (IsGet b v k f) ∧ Below w.heap.size w w' := by
  have HR := Lib.hid hR
  have Hl := Lib.hid hR.1
  have Hb := Lib.hid hb
  clear hR hb
  go_enter Tryd.func24, Tryd.ntmps24
  go_wp2_with fail
  refine (rSpan_calls A n c b w HR.out hn).mono ?_
  rintro e w' ⟨s, f, rfl, Hs, rfl⟩
  by_cases hf : f = 0
  · subst hf
    have hs10 : 1 ≤ s ∧ s ≤ 10 ∧ s ≤ n := by
      rcases Hs.out with ⟨_, h1, h2, h3, _⟩ | ⟨_, h, _⟩ | ⟨_, h, _⟩
      · rw [Hl.out] at h3; exact ⟨h1, h2, h3⟩
      · omega
      · omega
    obtain ⟨hs1, hs2, hs3⟩ := hs10
    obtain ⟨b0, o0, e0, hcell⟩ := HR.out.2 (by omega)
    subst e0
    have Hcell := Lib.hid hcell
    clear hcell
    go_wp2_with fail
    go_loopw [7, 8] (fun v i wr => ∃ j : Nat, j ≤ s ∧ i = .int .i64 ((j : Int) - 1) ∧ v = .int .u64 ((valB ((b.take s).drop j) % 18446744073709551616 : Nat) : Int) ∧ wr = w') (fun _ i _ => (intOf i + 1).toNat)
    case atStart => exact ⟨s, by omega, rfl, by rw [List.drop_of_length_le (by rw [List.length_take]; omega)]; rfl, rfl⟩
    case round =>
      obtain ⟨j, hj, rfl, rfl, hw⟩ := hrel
      obtain ⟨W, hW⟩ : ∃ W, W = wr := ⟨_, rfl⟩
      rw [← hW] at hw ⊢
      subst hw
      clear hW
      obtain ⟨q, hq⟩ : ∃ q, q = valB ((b.take s).drop j) % 18446744073709551616 := ⟨_, rfl⟩
      rw [← hq]
      have hq64 : q < 18446744073709551616 := by rw [hq]; exact Nat.mod_lt _ (by decide)
      have Hq := Lib.hid hq
      clear hq
      by_cases hlt : 1 ≤ j
      · obtain ⟨k, hk⟩ : ∃ k, k = j - 1 := ⟨_, rfl⟩
        have hjk : (j : Int) - 1 = (k : Int) := by omega
        rw [hjk]
        have c0 := Hcell.out k (by omega)
        obtain ⟨x, hx⟩ : ∃ x, x = rd b k := ⟨_, rfl⟩
        rw [← hx] at c0
        have hx255 : 0 ≤ x ∧ x ≤ 255 := by rw [hx, rd_getElem (by rw [Hl.out]; omega)]; exact Hb.out _ (List.getElem_mem _)
        obtain ⟨hx0, hx1⟩ := hx255
        have hv : valB ((b.take s).drop k) = (x % 128).toNat + 128 * valB ((b.take s).drop j) := by
          rw [valB_drop (by rw [List.length_take, Hl.out]; omega), take_rdl (by omega), ← hx, show k + 1 = j by omega]
        have HV := Lib.hid hv
        have Hk := Lib.hid hk
        have hkn : k < n := by omega
        clear hx hv hk hjk
        go_wp2_with fail
        go_roundw
        case rel =>
          refine ⟨k, by have := Hk.out; omega, by go_num, ?_, trivial⟩
          rw [HV.out]
          have hq := Hq.out
          congr 1
          first | omega | (rw [IntKind.wrap_u64]; omega) | (rw [IntKind.wrap_u64, IntKind.wrap_u64]; omega)
        case measure => (have := Hk.out; first | (simp [intOf]; omega) | (simp [intOf]))
      · obtain rfl : j = 0 := by omega
        have hq := Hq.out
        rw [List.drop_zero] at hq
        have Hq0 := Lib.hid hq
        have h10 := lebU_10 (n := q) hq64
        obtain ⟨lq, hlq⟩ : ∃ l, l = (lebU q).length := ⟨_, rfl⟩
        have Hlq := Lib.hid hlq
        obtain ⟨sa, hsa⟩ : ∃ l, l = strOfNums (lebU q) := ⟨_, rfl⟩
        have Hsa := Lib.hid hsa
        obtain ⟨sb, hsb⟩ : ∃ l, l = strOfNums (b.take s) := ⟨_, rfl⟩
        have Hsb := Lib.hid hsb
        have hiff : sa = sb ↔ lebU q = b.take s := by rw [hsa, hsb]; exact strOf_inj (lebU_byte q) (fun x hx => Hb.out x (List.mem_of_mem_take hx))
        have htk : Rd W .u8 (some ⟨b0, o0, none⟩) s (b.take s) := ⟨by rw [List.length_take, Hl.out]; omega, fun _ => ⟨b0, o0, rfl, fun j hj => by rw [take_rdl hj]; exact Hcell.out j (by omega)⟩⟩
        have Htk := Lib.hid htk
        have L0 : Later W W.drew := (Later.refl W).drew
        have hsc : s ≤ c := by omega
        by_cases he : lebU q = b.take s
        · have hne : (sa.toList == sb.toList) = true := by rw [tl_beq]; exact decide_eq_true (hiff.2 he)
          have hne2 : (sa.toList != sb.toList) = false := by rw [bne, hne]; rfl
          have Hg : Hid (IsGet b q s 0) := Lib.hid ⟨s, 0, Hs.out, .inr (.inl ⟨rfl, hq64, he, rfl, rfl⟩)⟩
          clear hq hlq hsa hsb hiff htk he h10
          go_upto_region 9 with fail
          refine wp_region_noPanic ?_
          refine wp_region_held_drew (S := fun W' => Later W W') (by kernel_rfl) (L0) (fun hHeld => ?_)
          refine' wpAnyH_take (i := 0) (oi := ⟨_, _, _, _, _, _⟩) (v := _) rfl (by kernel_rfl) (by kernel_rfl) (by kernel_rfl) (fun _ _ _ h => h) (Or.inl ⟨by rfl, ?hya0⟩) (by assumption) ?resta0
          case hya0 => (intro w hSw; (try dsimp only at hSw); go_simp; try with_reducible rfl)
          try simp only [Act.put, List.setIfInBounds_toArray, List.set_cons_zero, List.set_cons_succ]
          refine' wpAnyH_take (i := 3) (oi := ⟨_, _, _, _, _, _⟩) (v := _) rfl (by kernel_rfl) (by kernel_rfl) (by kernel_rfl) (fun _ _ _ h => h) (Or.inl ⟨by rfl, ?hya3⟩) (by assumption) ?resta3
          case hya3 => (intro w hSw; (try dsimp only at hSw); go_simp; try with_reducible rfl)
          try simp only [Act.put, List.setIfInBounds_toArray, List.set_cons_zero, List.set_cons_succ]
          refine' wpAnyH_take (i := 4) (oi := ⟨_, _, _, _, _, _⟩) (v := _) rfl (by kernel_rfl) (by kernel_rfl) (by kernel_rfl) (fun _ _ _ h => h) (Or.inl ⟨by rfl, ?hya4⟩) (by assumption) ?resta4
          case hya4 => (intro w hSw; (try dsimp only at hSw); go_simp; try with_reducible rfl)
          try simp only [Act.put, List.setIfInBounds_toArray, List.set_cons_zero, List.set_cons_succ]
          refine' wpAnyH_take (i := 5) (oi := ⟨_, _, _, _, _, _⟩) (v := _) rfl (by kernel_rfl) (by kernel_rfl) (by kernel_rfl) (fun _ _ _ h => h) (Or.inl ⟨by rfl, ?hya5⟩) (by assumption) ?resta5
          case hya5 => (intro w hSw; (try dsimp only at hSw); go_simp; try with_reducible rfl)
          try simp only [Act.put, List.setIfInBounds_toArray, List.set_cons_zero, List.set_cons_succ]
          refine wpAnyH_ready (rs := [1, 6]) (by kernel_rfl) (by simp) ?_
          refine AllReadyH.cons (o := ⟨_, _, _, _, _, _⟩) rfl (fun K hK => ?_) (AllReadyH.cons (o := ⟨_, _, _, _, _, _⟩) rfl (fun K hK => ?_) AllReadyH.nil)
          · go_simp
            go_at_call 20
            refine (rU_calls (q + 1) q _ (by omega) hq64).mono ?_
            rintro e wA ⟨vA, rfl, hoA, hbA⟩
            have LA : Later W wA := Later.step L0 hbA
            rw [← Hlq.out] at hoA
            obtain ⟨aA, cA, rfl, _, hrA⟩ := own_rd hoA
            have HrA := Lib.hid hrA
            clear hrA hoA hbA
            refine hK.out _ _ (LA) (fun hHeldN => ?_)
            clear hK K hHeld
            have hHeld := hHeldN
            clear hHeldN
            try simp only [Act.put, List.setIfInBounds_toArray, List.set_cons_zero, List.set_cons_succ]
            refine wpAnyH_ready (rs := [2, 6]) (by kernel_rfl) (by simp) ?_
            refine AllReadyH.cons (o := ⟨_, _, _, _, _, _⟩) rfl (fun K hK => ?_) (AllReadyH.cons (o := ⟨_, _, _, _, _, _⟩) rfl (fun K hK => ?_) AllReadyH.nil)
            · have cv := conv_all (c := cA) HrA.out
              rw [← Hsa.out] at cv
              go_simp
              clear cv
              refine hK.out _ _ (LA) (fun hHeldN => ?_)
              clear hK K hHeld
              have hHeld := hHeldN
              clear hHeldN
              try simp only [Act.put, List.setIfInBounds_toArray, List.set_cons_zero, List.set_cons_succ]
              refine wpAnyH_ready (rs := [6]) (by kernel_rfl) (by simp) ?_
              refine AllReadyH.cons (o := ⟨_, _, _, _, _, _⟩) rfl (fun K hK => ?_) AllReadyH.nil
              have cv := conv_all (c := c) (Htk.out.below (Later.bel LA))
              rw [← Hsb.out] at cv
              go_simp
              clear cv
              refine hK.out _ _ (LA) (fun hHeldN => ?_)
              clear hK K hHeld
              have hHeld := hHeldN
              clear hHeldN
              try simp only [Act.put, List.setIfInBounds_toArray, List.set_cons_zero, List.set_cons_succ]
              refine' wpAnyH_take (i := 7) (oi := ⟨_, _, _, _, _, _⟩) (v := _) rfl (by kernel_rfl) (by kernel_rfl) (by kernel_rfl) (fun _ _ _ h => h) (Or.inl ⟨by rfl, ?hyz1_7⟩) (by assumption) ?restz1_7
              case hyz1_7 => (intro w hSw; (try dsimp only at hSw); go_simp; try with_reducible rfl)
              try simp only [Act.put, List.setIfInBounds_toArray, List.set_cons_zero, List.set_cons_succ]
              refine wpAnyH_done (by kernel_rfl) ?_ _
              refine NoPanic.normal ?_
              have HBz := Lib.hid (Later.bel LA)
              go_wp2_with fail
              refine bodyPost_ret (v := .tuple #[.int .u64 q, .int .i64 s, .int .i64 0]) (by simp [results, Tryd.results24, go_sem]) rfl ?_
              exact ⟨q, s, 0, rfl, Hg.out, HBz.out⟩
            · have cv := conv_all (c := c) (Htk.out.below (Later.bel LA))
              rw [← Hsb.out] at cv
              go_simp
              clear cv
              refine hK.out _ _ (LA) (fun hHeldN => ?_)
              clear hK K hHeld
              have hHeld := hHeldN
              clear hHeldN
              try simp only [Act.put, List.setIfInBounds_toArray, List.set_cons_zero, List.set_cons_succ]
              refine wpAnyH_ready (rs := [2]) (by kernel_rfl) (by simp) ?_
              refine AllReadyH.cons (o := ⟨_, _, _, _, _, _⟩) rfl (fun K hK => ?_) AllReadyH.nil
              have cv := conv_all (c := cA) HrA.out
              rw [← Hsa.out] at cv
              go_simp
              clear cv
              refine hK.out _ _ (LA) (fun hHeldN => ?_)
              clear hK K hHeld
              have hHeld := hHeldN
              clear hHeldN
              try simp only [Act.put, List.setIfInBounds_toArray, List.set_cons_zero, List.set_cons_succ]
              refine' wpAnyH_take (i := 7) (oi := ⟨_, _, _, _, _, _⟩) (v := _) rfl (by kernel_rfl) (by kernel_rfl) (by kernel_rfl) (fun _ _ _ h => h) (Or.inl ⟨by rfl, ?hyz2_7⟩) (by assumption) ?restz2_7
              case hyz2_7 => (intro w hSw; (try dsimp only at hSw); go_simp; try with_reducible rfl)
              try simp only [Act.put, List.setIfInBounds_toArray, List.set_cons_zero, List.set_cons_succ]
              refine wpAnyH_done (by kernel_rfl) ?_ _
              refine NoPanic.normal ?_
              have HBz := Lib.hid (Later.bel LA)
              go_wp2_with fail
              refine bodyPost_ret (v := .tuple #[.int .u64 q, .int .i64 s, .int .i64 0]) (by simp [results, Tryd.results24, go_sem]) rfl ?_
              exact ⟨q, s, 0, rfl, Hg.out, HBz.out⟩
          · have cv := conv_all (c := c) (Htk.out.below (Later.bel L0))
            rw [← Hsb.out] at cv
            go_simp
            clear cv
            refine hK.out _ _ (L0) (fun hHeldN => ?_)
            clear hK K hHeld
            have hHeld := hHeldN
            clear hHeldN
            try simp only [Act.put, List.setIfInBounds_toArray, List.set_cons_zero, List.set_cons_succ]
            refine wpAnyH_ready (rs := [1]) (by kernel_rfl) (by simp) ?_
            refine AllReadyH.cons (o := ⟨_, _, _, _, _, _⟩) rfl (fun K hK => ?_) AllReadyH.nil
            go_simp
            go_at_call 20
            refine (rU_calls (q + 1) q _ (by omega) hq64).mono ?_
            rintro e wA ⟨vA, rfl, hoA, hbA⟩
            have LA : Later W wA := Later.step L0 hbA
            rw [← Hlq.out] at hoA
            obtain ⟨aA, cA, rfl, _, hrA⟩ := own_rd hoA
            have HrA := Lib.hid hrA
            clear hrA hoA hbA
            refine hK.out _ _ (LA) (fun hHeldN => ?_)
            clear hK K hHeld
            have hHeld := hHeldN
            clear hHeldN
            try simp only [Act.put, List.setIfInBounds_toArray, List.set_cons_zero, List.set_cons_succ]
            refine wpAnyH_ready (rs := [2]) (by kernel_rfl) (by simp) ?_
            refine AllReadyH.cons (o := ⟨_, _, _, _, _, _⟩) rfl (fun K hK => ?_) AllReadyH.nil
            have cv := conv_all (c := cA) HrA.out
            rw [← Hsa.out] at cv
            go_simp
            clear cv
            refine hK.out _ _ (LA) (fun hHeldN => ?_)
            clear hK K hHeld
            have hHeld := hHeldN
            clear hHeldN
            try simp only [Act.put, List.setIfInBounds_toArray, List.set_cons_zero, List.set_cons_succ]
            refine' wpAnyH_take (i := 7) (oi := ⟨_, _, _, _, _, _⟩) (v := _) rfl (by kernel_rfl) (by kernel_rfl) (by kernel_rfl) (fun _ _ _ h => h) (Or.inl ⟨by rfl, ?hyz3_7⟩) (by assumption) ?restz3_7
            case hyz3_7 => (intro w hSw; (try dsimp only at hSw); go_simp; try with_reducible rfl)
            try simp only [Act.put, List.setIfInBounds_toArray, List.set_cons_zero, List.set_cons_succ]
            refine wpAnyH_done (by kernel_rfl) ?_ _
            refine NoPanic.normal ?_
            have HBz := Lib.hid (Later.bel LA)
            go_wp2_with fail
            refine bodyPost_ret (v := .tuple #[.int .u64 q, .int .i64 s, .int .i64 0]) (by simp [results, Tryd.results24, go_sem]) rfl ?_
            exact ⟨q, s, 0, rfl, Hg.out, HBz.out⟩
        · have hne : (sa.toList == sb.toList) = false := by rw [tl_beq]; exact decide_eq_false (fun e => he (hiff.1 e))
          have hne2 : (sa.toList != sb.toList) = true := by rw [bne, hne]; rfl
          have Hg : Hid (IsGet b 0 0 3) := Lib.hid ⟨s, 0, Hs.out, .inr (.inr ⟨rfl, fun m hm e => he (by
            have hv := valB_leb m
            rw [e] at hv
            have : q = m := by rw [Hq0.out, hv]; exact Nat.mod_eq_of_lt hm
            rw [this, e]), rfl, rfl, rfl⟩)⟩
          clear hq hlq hsa hsb hiff htk he h10
          go_upto_region 9 with fail
          refine wp_region_noPanic ?_
          refine wp_region_held_drew (S := fun W' => Later W W') (by kernel_rfl) (L0) (fun hHeld => ?_)
          refine' wpAnyH_take (i := 0) (oi := ⟨_, _, _, _, _, _⟩) (v := _) rfl (by kernel_rfl) (by kernel_rfl) (by kernel_rfl) (fun _ _ _ h => h) (Or.inl ⟨by rfl, ?hyb0⟩) (by assumption) ?restb0
          case hyb0 => (intro w hSw; (try dsimp only at hSw); go_simp; try with_reducible rfl)
          try simp only [Act.put, List.setIfInBounds_toArray, List.set_cons_zero, List.set_cons_succ]
          refine' wpAnyH_take (i := 3) (oi := ⟨_, _, _, _, _, _⟩) (v := _) rfl (by kernel_rfl) (by kernel_rfl) (by kernel_rfl) (fun _ _ _ h => h) (Or.inl ⟨by rfl, ?hyb3⟩) (by assumption) ?restb3
          case hyb3 => (intro w hSw; (try dsimp only at hSw); go_simp; try with_reducible rfl)
          try simp only [Act.put, List.setIfInBounds_toArray, List.set_cons_zero, List.set_cons_succ]
          refine' wpAnyH_take (i := 4) (oi := ⟨_, _, _, _, _, _⟩) (v := _) rfl (by kernel_rfl) (by kernel_rfl) (by kernel_rfl) (fun _ _ _ h => h) (Or.inl ⟨by rfl, ?hyb4⟩) (by assumption) ?restb4
          case hyb4 => (intro w hSw; (try dsimp only at hSw); go_simp; try with_reducible rfl)
          try simp only [Act.put, List.setIfInBounds_toArray, List.set_cons_zero, List.set_cons_succ]
          refine' wpAnyH_take (i := 5) (oi := ⟨_, _, _, _, _, _⟩) (v := _) rfl (by kernel_rfl) (by kernel_rfl) (by kernel_rfl) (fun _ _ _ h => h) (Or.inl ⟨by rfl, ?hyb5⟩) (by assumption) ?restb5
          case hyb5 => (intro w hSw; (try dsimp only at hSw); go_simp; try with_reducible rfl)
          try simp only [Act.put, List.setIfInBounds_toArray, List.set_cons_zero, List.set_cons_succ]
          refine wpAnyH_ready (rs := [1, 6]) (by kernel_rfl) (by simp) ?_
          refine AllReadyH.cons (o := ⟨_, _, _, _, _, _⟩) rfl (fun K hK => ?_) (AllReadyH.cons (o := ⟨_, _, _, _, _, _⟩) rfl (fun K hK => ?_) AllReadyH.nil)
          · go_simp
            go_at_call 20
            refine (rU_calls (q + 1) q _ (by omega) hq64).mono ?_
            rintro e wA ⟨vA, rfl, hoA, hbA⟩
            have LA : Later W wA := Later.step L0 hbA
            rw [← Hlq.out] at hoA
            obtain ⟨aA, cA, rfl, _, hrA⟩ := own_rd hoA
            have HrA := Lib.hid hrA
            clear hrA hoA hbA
            refine hK.out _ _ (LA) (fun hHeldN => ?_)
            clear hK K hHeld
            have hHeld := hHeldN
            clear hHeldN
            try simp only [Act.put, List.setIfInBounds_toArray, List.set_cons_zero, List.set_cons_succ]
            refine wpAnyH_ready (rs := [2, 6]) (by kernel_rfl) (by simp) ?_
            refine AllReadyH.cons (o := ⟨_, _, _, _, _, _⟩) rfl (fun K hK => ?_) (AllReadyH.cons (o := ⟨_, _, _, _, _, _⟩) rfl (fun K hK => ?_) AllReadyH.nil)
            · have cv := conv_all (c := cA) HrA.out
              rw [← Hsa.out] at cv
              go_simp
              clear cv
              refine hK.out _ _ (LA) (fun hHeldN => ?_)
              clear hK K hHeld
              have hHeld := hHeldN
              clear hHeldN
              try simp only [Act.put, List.setIfInBounds_toArray, List.set_cons_zero, List.set_cons_succ]
              refine wpAnyH_ready (rs := [6]) (by kernel_rfl) (by simp) ?_
              refine AllReadyH.cons (o := ⟨_, _, _, _, _, _⟩) rfl (fun K hK => ?_) AllReadyH.nil
              have cv := conv_all (c := c) (Htk.out.below (Later.bel LA))
              rw [← Hsb.out] at cv
              go_simp
              clear cv
              refine hK.out _ _ (LA) (fun hHeldN => ?_)
              clear hK K hHeld
              have hHeld := hHeldN
              clear hHeldN
              try simp only [Act.put, List.setIfInBounds_toArray, List.set_cons_zero, List.set_cons_succ]
              refine' wpAnyH_take (i := 7) (oi := ⟨_, _, _, _, _, _⟩) (v := _) rfl (by kernel_rfl) (by kernel_rfl) (by kernel_rfl) (fun _ _ _ h => h) (Or.inl ⟨by rfl, ?hyz51_7⟩) (by assumption) ?restz51_7
              case hyz51_7 => (intro w hSw; (try dsimp only at hSw); go_simp; try with_reducible rfl)
              try simp only [Act.put, List.setIfInBounds_toArray, List.set_cons_zero, List.set_cons_succ]
              refine wpAnyH_done (by kernel_rfl) ?_ _
              refine NoPanic.normal ?_
              have HBz := Lib.hid (Later.bel LA)
              go_wp2_with fail
              refine bodyPost_ret (v := .tuple #[.int .u64 0, .int .i64 0, .int .i64 3]) (by simp [results, Tryd.results24, go_sem]) rfl ?_
              exact ⟨0, 0, 3, rfl, Hg.out, HBz.out⟩
            · have cv := conv_all (c := c) (Htk.out.below (Later.bel LA))
              rw [← Hsb.out] at cv
              go_simp
              clear cv
              refine hK.out _ _ (LA) (fun hHeldN => ?_)
              clear hK K hHeld
              have hHeld := hHeldN
              clear hHeldN
              try simp only [Act.put, List.setIfInBounds_toArray, List.set_cons_zero, List.set_cons_succ]
              refine wpAnyH_ready (rs := [2]) (by kernel_rfl) (by simp) ?_
              refine AllReadyH.cons (o := ⟨_, _, _, _, _, _⟩) rfl (fun K hK => ?_) AllReadyH.nil
              have cv := conv_all (c := cA) HrA.out
              rw [← Hsa.out] at cv
              go_simp
              clear cv
              refine hK.out _ _ (LA) (fun hHeldN => ?_)
              clear hK K hHeld
              have hHeld := hHeldN
              clear hHeldN
              try simp only [Act.put, List.setIfInBounds_toArray, List.set_cons_zero, List.set_cons_succ]
              refine' wpAnyH_take (i := 7) (oi := ⟨_, _, _, _, _, _⟩) (v := _) rfl (by kernel_rfl) (by kernel_rfl) (by kernel_rfl) (fun _ _ _ h => h) (Or.inl ⟨by rfl, ?hyz52_7⟩) (by assumption) ?restz52_7
              case hyz52_7 => (intro w hSw; (try dsimp only at hSw); go_simp; try with_reducible rfl)
              try simp only [Act.put, List.setIfInBounds_toArray, List.set_cons_zero, List.set_cons_succ]
              refine wpAnyH_done (by kernel_rfl) ?_ _
              refine NoPanic.normal ?_
              have HBz := Lib.hid (Later.bel LA)
              go_wp2_with fail
              refine bodyPost_ret (v := .tuple #[.int .u64 0, .int .i64 0, .int .i64 3]) (by simp [results, Tryd.results24, go_sem]) rfl ?_
              exact ⟨0, 0, 3, rfl, Hg.out, HBz.out⟩
          · have cv := conv_all (c := c) (Htk.out.below (Later.bel L0))
            rw [← Hsb.out] at cv
            go_simp
            clear cv
            refine hK.out _ _ (L0) (fun hHeldN => ?_)
            clear hK K hHeld
            have hHeld := hHeldN
            clear hHeldN
            try simp only [Act.put, List.setIfInBounds_toArray, List.set_cons_zero, List.set_cons_succ]
            refine wpAnyH_ready (rs := [1]) (by kernel_rfl) (by simp) ?_
            refine AllReadyH.cons (o := ⟨_, _, _, _, _, _⟩) rfl (fun K hK => ?_) AllReadyH.nil
            go_simp
            go_at_call 20
            refine (rU_calls (q + 1) q _ (by omega) hq64).mono ?_
            rintro e wA ⟨vA, rfl, hoA, hbA⟩
            have LA : Later W wA := Later.step L0 hbA
            rw [← Hlq.out] at hoA
            obtain ⟨aA, cA, rfl, _, hrA⟩ := own_rd hoA
            have HrA := Lib.hid hrA
            clear hrA hoA hbA
            refine hK.out _ _ (LA) (fun hHeldN => ?_)
            clear hK K hHeld
            have hHeld := hHeldN
            clear hHeldN
            try simp only [Act.put, List.setIfInBounds_toArray, List.set_cons_zero, List.set_cons_succ]
            refine wpAnyH_ready (rs := [2]) (by kernel_rfl) (by simp) ?_
            refine AllReadyH.cons (o := ⟨_, _, _, _, _, _⟩) rfl (fun K hK => ?_) AllReadyH.nil
            have cv := conv_all (c := cA) HrA.out
            rw [← Hsa.out] at cv
            go_simp
            clear cv
            refine hK.out _ _ (LA) (fun hHeldN => ?_)
            clear hK K hHeld
            have hHeld := hHeldN
            clear hHeldN
            try simp only [Act.put, List.setIfInBounds_toArray, List.set_cons_zero, List.set_cons_succ]
            refine' wpAnyH_take (i := 7) (oi := ⟨_, _, _, _, _, _⟩) (v := _) rfl (by kernel_rfl) (by kernel_rfl) (by kernel_rfl) (fun _ _ _ h => h) (Or.inl ⟨by rfl, ?hyz53_7⟩) (by assumption) ?restz53_7
            case hyz53_7 => (intro w hSw; (try dsimp only at hSw); go_simp; try with_reducible rfl)
            try simp only [Act.put, List.setIfInBounds_toArray, List.set_cons_zero, List.set_cons_succ]
            refine wpAnyH_done (by kernel_rfl) ?_ _
            refine NoPanic.normal ?_
            have HBz := Lib.hid (Later.bel LA)
            go_wp2_with fail
            refine bodyPost_ret (v := .tuple #[.int .u64 0, .int .i64 0, .int .i64 3]) (by simp [results, Tryd.results24, go_sem]) rfl ?_
            exact ⟨0, 0, 3, rfl, Hg.out, HBz.out⟩
  · have hfb : (f == 0) = false := by simpa using hf
    go_wp2_with fail
    refine bodyPost_ret (v := .tuple #[.int .u64 0, .int .i64 0, .int .i64 f]) (by simp [results, Tryd.results24, go_sem]) rfl ?_
    exact ⟨0, 0, f, rfl, get_err Hs.out hf, Below.refl _ _⟩
end Go.Proofs.YtendohnkhbgfbaaDoor
/-
  The walk of the reference's Next of chunks. Printed by gen_rchnext.py.
-/
namespace Go.Proofs.YtendohnkhbgfbaaDoor
open Go.RowKit

set_option maxHeartbeats 1000000 in
set_option maxRecDepth 100000 in
theorem rChNext_calls (hP : RPlain) (A : Option Addr) (n c : Nat) (b : List Int) (w : World) (hR : Rd w .u8 A n b) (hA : A = none → n = 0 ∧ c = 0) (hc : n ≤ c) (hb : ∀ x ∈ b, 0 ≤ x ∧ x ≤ 255) (hn : n ≤ 1000000) :
    Calls Tryd.prog 14 #[.slice A n c] w fun e w' => ∃ (K : Int) (A' : Option Addr) (n' c' : Nat) (C : List Int) (M : Nat) (E : Int), e = .returned (.tuple #[.int .i64 K, .slice A' n' c', .int .i64 M, .int .i64 E]) ∧ Hid (IsNext b K C M E) ∧ Hid (Rd w' .u8 A' n' C) ∧ Hid (A' = none → n' = 0 ∧ c' = 0) ∧ n' ≤ c' ∧ Below w.heap.size w w' := by
  have HR := Lib.hid hR
  have HA := Lib.hid hA
  have Hb := Lib.hid hb
  have HP := Lib.hid hP
  have Hl := Lib.hid hR.1
  clear hR hA hb hP
  go_enter Tryd.func14, Tryd.ntmps14
  go_upto_region 2 with fail
  obtain ⟨g, hg⟩ : ∃ g, g = w.heap.size := ⟨_, rfl⟩
  obtain ⟨w1, hw1⟩ : ∃ X, X = w.alloc (.cells #[.int .u8 133, .int .u8 111, .int .u8 74, .int .u8 131] 5) := ⟨_, rfl⟩
  rw [← hw1, ← hg]
  have hB1 : Blk w1 g 5 .u8 magicL := by rw [hw1, hg]; exact heap_alloc_new w _
  have hb1 : Below w.heap.size w w1 := by rw [hw1]; exact (Below.refl _ _).alloc (Nat.le_refl _) _
  have HBk := Lib.hid hB1
  have HB1 := Lib.hid hb1
  clear hw1 hB1 hb1 hg
  go_wp2_with fail
  go_loopw [7] (fun i wr => ∃ j : Nat, j ≤ 4 ∧ j ≤ n ∧ i = .int .i64 j ∧ Hid (∀ q, q < j → rd b q = rd magicL q) ∧ Hid (Below w1.heap.size w1 wr)) (fun i _ => 4 - (intOf i).toNat)
  case atStart => exact ⟨0, by omega, by omega, rfl, Lib.hid (fun q hq => by omega), Lib.hid (Below.refl _ _)⟩
  case round =>
    obtain ⟨j, hj, hjn, rfl, HQ, HX⟩ := hrel
    obtain ⟨W, hW⟩ : ∃ W, W = wr := ⟨_, rfl⟩
    subst hW
    have HB := Lib.hid (below_seq HB1.out (Nat.le_refl _) HX.out)
    by_cases hlt : j < 4 ∧ j < n
    · obtain ⟨h4, hjl⟩ := hlt
      obtain ⟨b0, o0, rfl, hx⟩ := (HR.out.below HB.out).2 (by omega)
      have z := hx j hjl
      have mz := kept_cell HX.out (HBk.out.cell (j := j) (by show j < 4; exact h4))
      obtain ⟨x, hxe⟩ : ∃ x, x = rd b j := ⟨_, rfl⟩
      obtain ⟨y, hye⟩ : ∃ y, y = rd magicL j := ⟨_, rfl⟩
      rw [← hxe] at z
      rw [← hye] at mz
      have Hxe := Lib.hid hxe
      have Hye := Lib.hid hye
      clear hx hxe hye
      by_cases hxy : x = y
      · have hd : (x != y) = false := by simp [hxy]
        have Hxy := Lib.hid hxy
        clear hxy
        go_wp2
        go_region
        go_wp2
        go_roundw
        case rel =>
          refine ⟨j + 1, by omega, by omega, by go_num, Lib.hid (fun q hq => ?_), Lib.hid HX.out.drew⟩
          rcases Nat.lt_or_ge q j with h | h
          · exact HQ.out q h
          · obtain rfl : q = j := by omega
            rw [← Hxe.out, ← Hye.out]
            exact Hxy.out
        case measure => simp [intOf]; omega
      · have hd : (x != y) = true := by simp [hxy]
        have hno : ¬ Begins b := fun h => by
          refine hxy ?_
          rw [Hxe.out, Hye.out]
          exact h j h4 (by rw [Hl.out]; exact hjl)
        have Hno := Lib.hid hno
        clear hxy hno
        go_wp2
        go_region
        go_wp2_with fail
        refine bodyPost_ret (v := .tuple #[.int .i64 0, .slice none 0 0, .int .i64 ((0 : Nat) : Int), .int .i64 5]) (by simp [results, Tryd.results14, go_sem]) rfl ⟨0, none, 0, 0, [], 0, 5, rfl, Lib.hid (next_magic Hno.out), Lib.hid (rd_emp _ _), Lib.hid (fun _ => ⟨rfl, rfl⟩), Nat.le_refl _, HB.out.drew⟩
    · have hbeg : Begins b := fun i hi hl => HQ.out i (by rw [Hl.out] at hl; omega)
      have HBeg := Lib.hid hbeg
      have hstop : ¬ ((j : Int) < 4) ∨ ¬ ((j : Int) < (n : Int)) := by omega
      clear hbeg
      by_cases h4 : j < 4
      · have hjn2 : j = n := by omega
        subst hjn2
        go_wp2_with fail
        refine bodyPost_ret (v := .tuple #[.int .i64 0, .slice none 0 0, .int .i64 ((0 : Nat) : Int), .int .i64 2]) (by simp [results, Tryd.results14, go_sem]) rfl ⟨0, none, 0, 0, [], 0, 2, rfl, Lib.hid (next_few HBeg.out (by rw [Hl.out]; omega)), Lib.hid (rd_emp _ _), Lib.hid (fun _ => ⟨rfl, rfl⟩), Nat.le_refl _, HB.out⟩
      · obtain rfl : j = 4 := by omega
        clear hlt
        by_cases h9 : n ≤ 8
        · go_wp2_with fail
          refine bodyPost_ret (v := .tuple #[.int .i64 0, .slice none 0 0, .int .i64 ((0 : Nat) : Int), .int .i64 2]) (by simp [results, Tryd.results14, go_sem]) rfl ⟨0, none, 0, 0, [], 0, 2, rfl, Lib.hid (next_few HBeg.out (by rw [Hl.out]; omega)), Lib.hid (rd_emp _ _), Lib.hid (fun _ => ⟨rfl, rfl⟩), Nat.le_refl _, HB.out⟩
        · obtain ⟨b0, o0, rfl, hx⟩ := (HR.out.below HB.out).2 (by omega)
          have z8 := hx 8 (by omega)
          have hx8 := Hb.out _ (rd_mem (l := b) (j := 8) (by rw [Hl.out]; omega))
          obtain ⟨x, hxe⟩ : ∃ x, x = rd b 8 := ⟨_, rfl⟩
          rw [← hxe] at z8 hx8
          have Hxe := Lib.hid hxe
          have hlen9 : Hid (9 ≤ b.length) := Lib.hid (by rw [Hl.out]; omega)
          clear hx hxe
          by_cases hk : ¬ (x = 1 ∨ x = 2)
          · have Hk := Lib.hid hk
            rcases (show x < 1 ∨ (¬ x < 1 ∧ 2 < x) by omega) with h | ⟨h, h'⟩
            · clear hk
              go_wp2_with fail
              refine bodyPost_ret (v := .tuple #[.int .i64 0, .slice none 0 0, .int .i64 ((0 : Nat) : Int), .int .i64 6]) (by simp [results, Tryd.results14, go_sem]) rfl ⟨0, none, 0, 0, [], 0, 6, rfl, Lib.hid (next_type HBeg.out hlen9.out (fun h => by unfold IsKind at h; rw [← Hxe.out] at h; exact Hk.out h)), Lib.hid (rd_emp _ _), Lib.hid (fun _ => ⟨rfl, rfl⟩), Nat.le_refl _, HB.out⟩
            · clear hk
              go_wp2_with fail
              refine bodyPost_ret (v := .tuple #[.int .i64 0, .slice none 0 0, .int .i64 ((0 : Nat) : Int), .int .i64 6]) (by simp [results, Tryd.results14, go_sem]) rfl ⟨0, none, 0, 0, [], 0, 6, rfl, Lib.hid (next_type HBeg.out hlen9.out (fun h => by unfold IsKind at h; rw [← Hxe.out] at h; exact Hk.out h)), Lib.hid (rd_emp _ _), Lib.hid (fun _ => ⟨rfl, rfl⟩), Nat.le_refl _, HB.out⟩
          · have HKd : Hid (IsKind b) := Lib.hid (by unfold IsKind; rw [← Hxe.out]; exact Classical.not_not.1 hk)
            have hx1 : ¬ x < 1 := by omega
            have hx2 : ¬ 2 < x := by omega
            clear hk
            go_upto_region 11 with fail
            go_cut [8, 9, 10] from 45 to 51 (fun x y z wx => ∃ (v k : Nat) (f : Int), x = .int .u64 v ∧ y = .int .i64 k ∧ z = .int .i64 f ∧ Hid (IsGet (b.drop 9) v k f) ∧ Hid (Below W.heap.size W wx))
            case first =>
              have hbd : ∀ y ∈ b.drop 9, 0 ≤ y ∧ y ≤ 255 := fun y hy => Hb.out y (List.mem_of_mem_drop hy)
              have Hbd := Lib.hid hbd
              clear hbd z8
              by_cases hcc : 9 < c
              · go_wp2_with fail
                refine (Num18_calls (some ⟨b0, o0 + 9, none⟩) (n - 9) (c - 9) (b.drop 9) _ (rd_drop_w (HR.out.below HB.out) (by omega) (by omega)) (fun e => by cases e) (by omega) Hbd.out (by omega)).mono ?_
                rintro e w3 ⟨v, k, f, rfl, HGt, hb3⟩
                go_wp2
                go_meet
                exact ⟨v, k, f, rfl, rfl, rfl, HGt, Lib.hid hb3⟩
              · obtain rfl : c = 9 := by omega
                obtain rfl : n = 9 := by omega
                have hd9 : b.drop 9 = [] := List.drop_eq_nil_of_le (by rw [Hl.out]; omega)
                go_wp2_with fail
                refine (Num18_calls _ 0 0 (b.drop 9) _ (by rw [hd9]; exact rd_emp _ _) (fun _ => ⟨rfl, rfl⟩) (by omega) Hbd.out (by omega)).mono ?_
                rintro e w3 ⟨v, k, f, rfl, HGt, hb3⟩
                go_wp2
                go_meet
                exact ⟨v, k, f, rfl, rfl, rfl, HGt, Lib.hid hb3⟩
            case rest =>
              obtain ⟨v, k, f, rfl, rfl, rfl, HGt, HBx⟩ := hcut
              obtain ⟨W3, hW3⟩ : ∃ W, W = wc := ⟨_, rfl⟩
              subst hW3
              have z8' := kept_cell HBx.out z8
              have HB3 := Lib.hid (below_seq HB.out (Nat.le_refl _) HBx.out)
              clear z8 HBx
              by_cases hf : f ≠ 0
              · have hfb : (f != 0) = true := by simpa using hf
                have Hf := Lib.hid hf
                clear hf
                go_wp2_with fail
                refine bodyPost_ret (v := .tuple #[.int .i64 0, .slice none 0 0, .int .i64 ((0 : Nat) : Int), .int .i64 f]) (by simp [results, Tryd.results14, go_sem]) rfl ⟨0, none, 0, 0, [], 0, f, rfl, Lib.hid (next_num HBeg.out hlen9.out HKd.out HGt.out Hf.out), Lib.hid (rd_emp _ _), Lib.hid (fun _ => ⟨rfl, rfl⟩), Nat.le_refl _, HB3.out⟩
              · obtain rfl : f = 0 := Classical.not_not.1 hf
                obtain ⟨hk1, hk10, hkn, hv64⟩ := isGet_rng HGt.out
                clear hf
                by_cases hv : 1048576 < v
                · go_wp2_with fail
                  refine bodyPost_ret (v := .tuple #[.int .i64 0, .slice none 0 0, .int .i64 ((0 : Nat) : Int), .int .i64 4]) (by simp [results, Tryd.results14, go_sem]) rfl ⟨0, none, 0, 0, [], 0, 4, rfl, Lib.hid (next_long HBeg.out hlen9.out HKd.out HGt.out hv), Lib.hid (rd_emp _ _), Lib.hid (fun _ => ⟨rfl, rfl⟩), Nat.le_refl _, HB3.out⟩
                · by_cases hto : n < 9 + k + v
                  · go_wp2_with fail
                    refine bodyPost_ret (v := .tuple #[.int .i64 0, .slice none 0 0, .int .i64 ((0 : Nat) : Int), .int .i64 2]) (by simp [results, Tryd.results14, go_sem]) rfl ⟨0, none, 0, 0, [], 0, 2, rfl, Lib.hid (next_short HBeg.out hlen9.out HKd.out HGt.out (by omega) (by rw [Hl.out]; exact hto)), Lib.hid (rd_emp _ _), Lib.hid (fun _ => ⟨rfl, rfl⟩), Nat.le_refl _, HB3.out⟩
                  · have z8 := z8'
                    go_upto_region 18 with fail
                    go_cut [11] from 65 to 73 (fun y wx => ∃ (A2 : Option Addr) (c2 : Nat), y = .slice A2 v c2 ∧ Hid (Rd W3 .u8 A2 v ((b.drop (9 + k)).take v)) ∧ Hid (A2 = none → v = 0 ∧ c2 = 0) ∧ v ≤ c2 ∧ wx = W3)
                    case first =>
                      by_cases hcc : 9 + k < c
                      · go_wp2_with fail
                        go_meet
                        exact ⟨some ⟨b0, o0 + (9 + k), none⟩, c - (9 + k), rfl, Lib.hid (rd_take_c (rd_drop_w (HR.out.below HB3.out) (by omega) (k := 9 + k) (by omega)) (by omega)), Lib.hid (fun e => by cases e), by omega, rfl⟩
                      · have hce : 9 + k = c := by omega
                        have hv0 : v ≤ 0 := by omega
                        clear hcc
                        go_wp2_with fail
                        go_meet
                        exact ⟨some ⟨b0, o0, none⟩, 0, rfl, Lib.hid (rd_nul (by omega) W3 _ _), Lib.hid (fun e => by cases e), by omega, rfl⟩
                    case rest =>
                      obtain ⟨A2, c2, rfl, Hrc, Hnc, hvc2, rfl⟩ := hcut
                      obtain ⟨W3, hW3⟩ : ∃ W, W = wc := ⟨_, rfl⟩
                      subst hW3
                      have L0 := Later.refl W3
                      have C8 := Later.cell z8
                      obtain ⟨C, hC⟩ : ∃ C, C = (b.drop (9 + k)).take v := ⟨_, rfl⟩
                      rw [← hC] at Hrc
                      have hcb : ∀ y ∈ C, 0 ≤ y ∧ y ≤ 255 := fun y hy => Hb.out y (List.mem_of_mem_drop (List.mem_of_mem_take (by rw [← hC]; exact hy)))
                      obtain ⟨T, hT⟩ : ∃ T, T = 9 + k + v := ⟨_, rfl⟩
                      have hsl : Rd W3 .u8 (some ⟨b0, o0, none⟩) T (b.take T) := rd_take_c (HR.out.below HB3.out) (by omega)
                      have hwv : IntKind.i64.wrap (v : Int) = (v : Int) := by rw [IntWalk.i64_in _ (by omega)]
                      have hwT : IntKind.i64.wrap (9 + (k : Int) + (v : Int)) = (T : Int) := by rw [IntWalk.i64_in _ (by omega)]; omega
                      have hTc : (T : Int) ≤ (c : Int) := by omega
                      have HT := Lib.hid hT
                      clear hT
                      obtain ⟨lp, hlp⟩ : ∃ lp, lp = (chunkB x C).length := ⟨_, rfl⟩
                      obtain ⟨sa, hsa⟩ : ∃ sa, sa = strOfNums (chunkB x C) := ⟨_, rfl⟩
                      obtain ⟨sb, hsb⟩ : ∃ sb, sb = strOfNums (b.take T) := ⟨_, rfl⟩
                      have HC := Lib.hid hC
                      have Hcb := Lib.hid hcb
                      have Hsl := Lib.hid hsl
                      have Hlp := Lib.hid hlp
                      have HSa := Lib.hid hsa
                      have HSb := Lib.hid hsb
                      have hwx : IntKind.i64.wrap x = x := by rw [IntWalk.i64_in _ (by omega)]
                      have h8n : (8 : Int) < (n : Int) := by omega
                      have hw9 : IntKind.i64.wrap (9 + (k : Int)) = 9 + (k : Int) := by rw [IntWalk.i64_in _ (by omega)]
                      clear hC hcb hsl hlp hsa hsb
                      go_upto_region 19 with fail
                      go_cut [89] from 74 to 89 (fun t wx => ∃ q : Bool, t = .bool q ∧ Hid (q = true ↔ sa ≠ sb) ∧ Hid (Below W3.heap.size W3 wx))
                      case first =>
                        refine wp_region_noPanic ?_
                        refine wp_region_held_drew (S := fun W => Later W3 W ∧ W.cell? ⟨b0, o0 + 8, none⟩ = some (.int .u8 x)) (by kernel_rfl) (⟨(Later.drew L0), C8 _ (Later.drew L0)⟩) (fun hHeld => ?_)
                        refine' wpAnyH_take (i := 0) (oi := ⟨_, _, _, _, _, _⟩) (v := _) rfl (by kernel_rfl) (by kernel_rfl) (by kernel_rfl) (fun _ _ _ h => h) (Or.inl ⟨by rfl, ?hya0⟩) (by assumption) ?resta0
                        case hya0 => (intro w hSw; (try dsimp only at hSw); go_simp; try with_reducible rfl)
                        try simp only [Act.put, List.setIfInBounds_toArray, List.set_cons_zero, List.set_cons_succ]
                        refine' wpAnyH_take (i := 1) (oi := ⟨_, _, _, _, _, _⟩) (v := _) rfl (by kernel_rfl) (by kernel_rfl) (by kernel_rfl) (fun _ _ _ h => h) (Or.inl ⟨by rfl, ?hya1⟩) (by assumption) ?resta1
                        case hya1 => (intro w hSw; (try dsimp only at hSw); go_simp; try with_reducible rfl)
                        try simp only [Act.put, List.setIfInBounds_toArray, List.set_cons_zero, List.set_cons_succ]
                        refine' wpAnyH_take (i := 2) (oi := ⟨_, _, _, _, _, _⟩) (v := _) rfl (by kernel_rfl) (by kernel_rfl) (by kernel_rfl) (fun _ _ _ h => h) (Or.inl ⟨by rfl, ?hya2⟩) (by assumption) ?resta2
                        case hya2 => (intro w hSw; (try dsimp only at hSw); go_simp; try with_reducible rfl)
                        try simp only [Act.put, List.setIfInBounds_toArray, List.set_cons_zero, List.set_cons_succ]
                        refine' wpAnyH_take (i := 3) (oi := ⟨_, _, _, _, _, _⟩) (v := _) rfl (by kernel_rfl) (by kernel_rfl) (by kernel_rfl) (fun _ _ _ h => h) (Or.inl ⟨by rfl, ?hya3⟩) (by assumption) ?resta3
                        case hya3 => (intro w hSw; (try dsimp only at hSw); go_simp; try with_reducible rfl)
                        try simp only [Act.put, List.setIfInBounds_toArray, List.set_cons_zero, List.set_cons_succ]
                        refine' wpAnyH_take (i := 4) (oi := ⟨_, _, _, _, _, _⟩) (v := _) rfl (by kernel_rfl) (by kernel_rfl) (by kernel_rfl) (fun _ _ _ h => h) (Or.inl ⟨by rfl, ?hya4⟩) (by assumption) ?resta4
                        case hya4 => (intro w hSw; (try dsimp only at hSw); go_simp; try with_reducible rfl)
                        try simp only [Act.put, List.setIfInBounds_toArray, List.set_cons_zero, List.set_cons_succ]
                        refine' wpAnyH_take (i := 7) (oi := ⟨_, _, _, _, _, _⟩) (v := _) rfl (by kernel_rfl) (by kernel_rfl) (by kernel_rfl) (fun _ _ _ h => h) (Or.inl ⟨by rfl, ?hya7⟩) (by assumption) ?resta7
                        case hya7 => (intro w hSw; (try dsimp only at hSw); go_simp; try with_reducible rfl)
                        try simp only [Act.put, List.setIfInBounds_toArray, List.set_cons_zero, List.set_cons_succ]
                        refine' wpAnyH_take (i := 8) (oi := ⟨_, _, _, _, _, _⟩) (v := _) rfl (by kernel_rfl) (by kernel_rfl) (by kernel_rfl) (fun _ _ _ h => h) (Or.inl ⟨by rfl, ?hya8⟩) (by assumption) ?resta8
                        case hya8 => (intro w hSw; (try dsimp only at hSw); go_simp; try with_reducible rfl)
                        try simp only [Act.put, List.setIfInBounds_toArray, List.set_cons_zero, List.set_cons_succ]
                        refine' wpAnyH_take (i := 9) (oi := ⟨_, _, _, _, _, _⟩) (v := _) rfl (by kernel_rfl) (by kernel_rfl) (by kernel_rfl) (fun _ _ _ h => h) (Or.inl ⟨by rfl, ?hya9⟩) (by assumption) ?resta9
                        case hya9 => (intro w hSw; (try dsimp only at hSw); go_simp; try with_reducible rfl)
                        try simp only [Act.put, List.setIfInBounds_toArray, List.set_cons_zero, List.set_cons_succ]
                        refine' wpAnyH_take (i := 10) (oi := ⟨_, _, _, _, _, _⟩) (v := _) rfl (by kernel_rfl) (by kernel_rfl) (by kernel_rfl) (fun _ _ _ h => h) (Or.inl ⟨by rfl, ?hya10⟩) (by assumption) ?resta10
                        case hya10 => (intro w hSw; (try dsimp only at hSw); go_simp; try with_reducible rfl)
                        try simp only [Act.put, List.setIfInBounds_toArray, List.set_cons_zero, List.set_cons_succ]
                        refine' wpAnyH_take (i := 11) (oi := ⟨_, _, _, _, _, _⟩) (v := _) rfl (by kernel_rfl) (by kernel_rfl) (by kernel_rfl) (fun _ _ _ h => h) (Or.inl ⟨by rfl, ?hya11⟩) (by assumption) ?resta11
                        case hya11 => (intro w hSw; (try dsimp only at hSw); go_simp; try with_reducible rfl)
                        try simp only [Act.put, List.setIfInBounds_toArray, List.set_cons_zero, List.set_cons_succ]
                        refine' wpAnyH_take (i := 12) (oi := ⟨_, _, _, _, _, _⟩) (v := _) rfl (by kernel_rfl) (by kernel_rfl) (by kernel_rfl) (fun _ _ _ h => h) (Or.inl ⟨by rfl, ?hya12⟩) (by assumption) ?resta12
                        case hya12 => (intro w hSw; (try dsimp only at hSw); go_simp; try with_reducible rfl)
                        try simp only [Act.put, List.setIfInBounds_toArray, List.set_cons_zero, List.set_cons_succ]
                        refine' wpAnyH_take (i := 13) (oi := ⟨_, _, _, _, _, _⟩) (v := _) rfl (by kernel_rfl) (by kernel_rfl) (by kernel_rfl) (fun _ _ _ h => h) (Or.inl ⟨by rfl, ?hya13⟩) (by assumption) ?resta13
                        case hya13 => (intro w hSw; (try dsimp only at hSw); go_simp; try with_reducible rfl)
                        try simp only [Act.put, List.setIfInBounds_toArray, List.set_cons_zero, List.set_cons_succ]
                        refine wpAnyH_ready (rs := [5, 14]) (by kernel_rfl) (by simp) ?_
                        refine AllReadyH.cons (o := ⟨_, _, _, _, _, _⟩) rfl (fun K hK => ?_) (AllReadyH.cons (o := ⟨_, _, _, _, _, _⟩) rfl (fun K hK => ?_) AllReadyH.nil)
                        · go_simp
                          go_at_call 12
                          refine (rChPut_calls HP.out x A2 v c2 C _ hx8 (Hrc.out.below (Later.bel (Later.drew L0))) Hnc.out Hcb.out (by omega)).mono ?_
                          rintro e w9 ⟨v9, rfl, ho9, hb9⟩
                          obtain ⟨A9, c9, e9, _, hr9⟩ := own_rd ho9.out
                          subst e9
                          rw [← Hlp.out] at hr9 ⊢
                          have L9 := Later.step (Later.drew L0) hb9
                          refine hK.out _ _ (⟨L9, C8 _ L9⟩) (fun hHeldN => ?_)
                          clear hK K hHeld
                          have hHeld := hHeldN
                          clear hHeldN
                          try simp only [Act.put, List.setIfInBounds_toArray, List.set_cons_zero, List.set_cons_succ]
                          refine wpAnyH_ready (rs := [6, 14]) (by kernel_rfl) (by simp) ?_
                          refine AllReadyH.cons (o := ⟨_, _, _, _, _, _⟩) rfl (fun K hK => ?_) (AllReadyH.cons (o := ⟨_, _, _, _, _, _⟩) rfl (fun K hK => ?_) AllReadyH.nil)
                          · have cv := conv_all (c := c9) hr9
                            rw [← HSa.out] at cv
                            go_simp
                            clear cv
                            refine hK.out _ _ (⟨L9, C8 _ L9⟩) (fun hHeldN => ?_)
                            clear hK K hHeld
                            have hHeld := hHeldN
                            clear hHeldN
                            try simp only [Act.put, List.setIfInBounds_toArray, List.set_cons_zero, List.set_cons_succ]
                            refine wpAnyH_ready (rs := [14]) (by kernel_rfl) (by simp) ?_
                            refine AllReadyH.cons (o := ⟨_, _, _, _, _, _⟩) rfl (fun K hK => ?_) AllReadyH.nil
                            have cv := conv_all (c := c) (Hsl.out.below (Later.bel L9))
                            rw [← HSb.out] at cv
                            go_simp
                            clear cv
                            refine hK.out _ _ (⟨L9, C8 _ L9⟩) (fun hHeldN => ?_)
                            clear hK K hHeld
                            have hHeld := hHeldN
                            clear hHeldN
                            try simp only [Act.put, List.setIfInBounds_toArray, List.set_cons_zero, List.set_cons_succ]
                            refine' wpAnyH_take (i := 15) (oi := ⟨_, _, _, _, _, _⟩) (v := _) rfl (by kernel_rfl) (by kernel_rfl) (by kernel_rfl) (fun _ _ _ h => h) (Or.inl ⟨by rfl, ?hyz1_15⟩) (by assumption) ?restz1_15
                            case hyz1_15 => (intro w hSw; (try dsimp only at hSw); go_simp; try with_reducible rfl)
                            try simp only [Act.put, List.setIfInBounds_toArray, List.set_cons_zero, List.set_cons_succ]
                            refine wpAnyH_done (by kernel_rfl) ?_ _
                            refine NoPanic.normal ?_
                            go_wp2
                            go_meet
                            exact ⟨_, rfl, Lib.hid (by rw [tl_beq]; simp), Lib.hid (Later.bel L9)⟩
                          · have cv := conv_all (c := c) (Hsl.out.below (Later.bel L9))
                            rw [← HSb.out] at cv
                            go_simp
                            clear cv
                            refine hK.out _ _ (⟨L9, C8 _ L9⟩) (fun hHeldN => ?_)
                            clear hK K hHeld
                            have hHeld := hHeldN
                            clear hHeldN
                            try simp only [Act.put, List.setIfInBounds_toArray, List.set_cons_zero, List.set_cons_succ]
                            refine wpAnyH_ready (rs := [6]) (by kernel_rfl) (by simp) ?_
                            refine AllReadyH.cons (o := ⟨_, _, _, _, _, _⟩) rfl (fun K hK => ?_) AllReadyH.nil
                            have cv := conv_all (c := c9) hr9
                            rw [← HSa.out] at cv
                            go_simp
                            clear cv
                            refine hK.out _ _ (⟨L9, C8 _ L9⟩) (fun hHeldN => ?_)
                            clear hK K hHeld
                            have hHeld := hHeldN
                            clear hHeldN
                            try simp only [Act.put, List.setIfInBounds_toArray, List.set_cons_zero, List.set_cons_succ]
                            refine' wpAnyH_take (i := 15) (oi := ⟨_, _, _, _, _, _⟩) (v := _) rfl (by kernel_rfl) (by kernel_rfl) (by kernel_rfl) (fun _ _ _ h => h) (Or.inl ⟨by rfl, ?hyz2_15⟩) (by assumption) ?restz2_15
                            case hyz2_15 => (intro w hSw; (try dsimp only at hSw); go_simp; try with_reducible rfl)
                            try simp only [Act.put, List.setIfInBounds_toArray, List.set_cons_zero, List.set_cons_succ]
                            refine wpAnyH_done (by kernel_rfl) ?_ _
                            refine NoPanic.normal ?_
                            go_wp2
                            go_meet
                            exact ⟨_, rfl, Lib.hid (by rw [tl_beq]; simp), Lib.hid (Later.bel L9)⟩
                        · have cv := conv_all (c := c) (Hsl.out.below (Later.bel (Later.drew L0)))
                          rw [← HSb.out] at cv
                          go_simp
                          clear cv
                          refine hK.out _ _ (⟨(Later.drew L0), C8 _ (Later.drew L0)⟩) (fun hHeldN => ?_)
                          clear hK K hHeld
                          have hHeld := hHeldN
                          clear hHeldN
                          try simp only [Act.put, List.setIfInBounds_toArray, List.set_cons_zero, List.set_cons_succ]
                          refine wpAnyH_ready (rs := [5]) (by kernel_rfl) (by simp) ?_
                          refine AllReadyH.cons (o := ⟨_, _, _, _, _, _⟩) rfl (fun K hK => ?_) AllReadyH.nil
                          go_simp
                          go_at_call 12
                          refine (rChPut_calls HP.out x A2 v c2 C _ hx8 (Hrc.out.below (Later.bel (Later.drew L0))) Hnc.out Hcb.out (by omega)).mono ?_
                          rintro e w9 ⟨v9, rfl, ho9, hb9⟩
                          obtain ⟨A9, c9, e9, _, hr9⟩ := own_rd ho9.out
                          subst e9
                          rw [← Hlp.out] at hr9 ⊢
                          have L9 := Later.step (Later.drew L0) hb9
                          refine hK.out _ _ (⟨L9, C8 _ L9⟩) (fun hHeldN => ?_)
                          clear hK K hHeld
                          have hHeld := hHeldN
                          clear hHeldN
                          try simp only [Act.put, List.setIfInBounds_toArray, List.set_cons_zero, List.set_cons_succ]
                          refine wpAnyH_ready (rs := [6]) (by kernel_rfl) (by simp) ?_
                          refine AllReadyH.cons (o := ⟨_, _, _, _, _, _⟩) rfl (fun K hK => ?_) AllReadyH.nil
                          have cv := conv_all (c := c9) hr9
                          rw [← HSa.out] at cv
                          go_simp
                          clear cv
                          refine hK.out _ _ (⟨L9, C8 _ L9⟩) (fun hHeldN => ?_)
                          clear hK K hHeld
                          have hHeld := hHeldN
                          clear hHeldN
                          try simp only [Act.put, List.setIfInBounds_toArray, List.set_cons_zero, List.set_cons_succ]
                          refine' wpAnyH_take (i := 15) (oi := ⟨_, _, _, _, _, _⟩) (v := _) rfl (by kernel_rfl) (by kernel_rfl) (by kernel_rfl) (fun _ _ _ h => h) (Or.inl ⟨by rfl, ?hyz3_15⟩) (by assumption) ?restz3_15
                          case hyz3_15 => (intro w hSw; (try dsimp only at hSw); go_simp; try with_reducible rfl)
                          try simp only [Act.put, List.setIfInBounds_toArray, List.set_cons_zero, List.set_cons_succ]
                          refine wpAnyH_done (by kernel_rfl) ?_ _
                          refine NoPanic.normal ?_
                          go_wp2
                          go_meet
                          exact ⟨_, rfl, Lib.hid (by rw [tl_beq]; simp), Lib.hid (Later.bel L9)⟩
                      case rest =>
                        obtain ⟨q, rfl, HQ2, HX6⟩ := hcut
                        obtain ⟨W6, hW6⟩ : ∃ W, W = wc := ⟨_, rfl⟩
                        subst hW6
                        have HB6 := Lib.hid (below_seq HB3.out (Nat.le_refl _) HX6.out)
                        have y8 := C8 _ ⟨HX6.out⟩
                        have hxk : 0 ≤ x ∧ x ≤ 255 := hx8
                        have hput : ∀ y ∈ chunkB x C, 0 ≤ y ∧ y ≤ 255 := chunkB_byte hxk Hcb.out
                        have hsums : sa = sb ↔ sumB (rd b 8) ((b.drop (9 + k)).take v) = (b.drop 4).take 4 := by
                          rw [← chunk_is HBeg.out hlen9.out HGt.out (by rw [Hl.out]; omega), HSa.out, HSb.out, ← Hxe.out, ← HC.out, HT.out]
                          exact ⟨strOf_sum hput (fun y hy => Hb.out y (List.mem_of_mem_take hy)), fun h => by rw [h]⟩
                        have Hsums := Lib.hid hsums
                        clear hsums hput C8 L0 hxk
                        cases q
                        · have hab : sa = sb := Classical.not_not.1 (fun h => by have := HQ2.out.2 h; cases this)
                          have Hab := Lib.hid hab
                          clear hab
                          have hTi : (9 : Int) + (k : Int) + (v : Int) = (T : Int) := by have := HT.out; omega
                          go_wp2_with fail
                          refine bodyPost_ret (v := .tuple #[.int .i64 x, .slice A2 v c2, .int .i64 (T : Nat), .int .i64 0]) (by simp [results, Tryd.results14, go_sem]) rfl ⟨x, A2, v, c2, C, T, 0, rfl, Lib.hid (by have hh := next_ok HBeg.out hlen9.out HKd.out HGt.out (by omega) (by rw [Hl.out]; omega) (Hsums.out.1 Hab.out); rw [← Hxe.out, ← HC.out, ← HT.out] at hh; exact hh), Lib.hid (Hrc.out.below HX6.out), Hnc, hvc2, HB6.out⟩
                        · have hab : ¬ sa = sb := HQ2.out.1 rfl
                          have Hab := Lib.hid hab
                          clear hab
                          go_wp2_with fail
                          refine bodyPost_ret (v := .tuple #[.int .i64 0, .slice none 0 0, .int .i64 ((0 : Nat) : Int), .int .i64 7]) (by simp [results, Tryd.results14, go_sem]) rfl ⟨0, none, 0, 0, [], 0, 7, rfl, Lib.hid (next_sum HBeg.out hlen9.out HKd.out HGt.out (by omega) (by rw [Hl.out]; omega) (fun h => Hab.out (Hsums.out.2 h))), Lib.hid (rd_emp _ _), Lib.hid (fun _ => ⟨rfl, rfl⟩), Nat.le_refl _, HB6.out⟩

end Go.Proofs.YtendohnkhbgfbaaDoor
