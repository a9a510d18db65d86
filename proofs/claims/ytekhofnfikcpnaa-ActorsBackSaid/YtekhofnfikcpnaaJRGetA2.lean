/-
  Texts joined into one file: NumW, RGetA.
-/
import Derived.Test.YtekhofnfikcpnaaJRGetA1
import Derived.Test.YtekhofnfikcpnaaJAw182
import Derived.Deep.RegionHeld3
import Derived.Deep.Cut
import Derived.Deep.CutRange
import Derived.Deep.CutBlock
/-
  The walk of the reference's Num. Printed by gen_num.py.
-/
namespace Go.Proofs.Ytekhofnfikcpnaa
open Go.RowKit

theorem nums_strOf {l : List Int} (h : ∀ x ∈ l, 0 ≤ x ∧ x ≤ 255) : nums (strOfNums l) = l := by
  unfold nums strOfNums
  show ((l.map fun n => UInt8.ofNat n.toNat).toArray.toList).map _ = l
  rw [List.toList_toArray, List.map_map]
  conv => rhs; rw [← List.map_id l]
  refine List.map_congr_left (fun x hx => ?_)
  have := h x hx
  show ((UInt8.ofNat x.toNat).toNat : Int) = x
  rw [UInt8.toNat_ofNat_of_lt' (by show _ < 256; omega)]
  omega
theorem strOf_inj {l m : List Int} (hl : ∀ x ∈ l, 0 ≤ x ∧ x ≤ 255) (hm : ∀ x ∈ m, 0 ≤ x ∧ x ≤ 255) : strOfNums l = strOfNums m ↔ l = m :=
  ⟨fun e => by rw [← nums_strOf hl, e, nums_strOf hm], fun e => by rw [e]⟩
theorem valB_drop {l : List Int} {j : Nat} (h : j < l.length) : valB (l.drop j) = (rd l j % 128).toNat + 128 * valB (l.drop (j + 1)) := by
  rw [List.drop_eq_getElem_cons h, valB, rd_getElem h]
set_option maxHeartbeats 1000000 in
set_option maxRecDepth 100000 in
theorem Num_calls (A : Option Addr) (n c : Nat) (b : List Int) (w : World) (hR : Rd w .u8 A n b) (hA : A = none → n = 0 ∧ c = 0) (hc : n ≤ c) (hb : ∀ x ∈ b, 0 ≤ x ∧ x ≤ 255) (hn : n ≤ 1000000) :
    Calls Try.prog 36 #[.slice A n c] w fun e w' => ∃ (v k : Nat) (f : Int), e = .returned (.tuple #[.int .u64 v, .int .i64 k, .int .i64 f]) ∧ Hid (IsGet b v k f) ∧ Below w.heap.size w w' := by
  have HR := Lib.hid hR
  have Hl := Lib.hid hR.1
  have Hb := Lib.hid hb
  clear hR hb
  go_enter Try.func36, Try.ntmps36
  go_wp2_with fail
  refine (rSpan_calls A n c b w HR.out hn).mono ?_
  rintro e w' ⟨s, f, rfl, Hs, rfl⟩
  by_cases hf : f = 0
  · subst hf
    have hs10 : 1 ≤ s ∧ s ≤ 10 ∧ s ≤ n := by
      rcases Hs.out with ⟨_, h1, h2, h3, _⟩ | ⟨_, h, _⟩ | ⟨_, h, _⟩
      · rw [Hl.out] at h3; exact ⟨h1, h2, h3⟩
      · omega
      · omega
    obtain ⟨hs1, hs2, hs3⟩ := hs10
    obtain ⟨b0, o0, e0, hcell⟩ := HR.out.2 (by omega)
    subst e0
    have Hcell := Lib.hid hcell
    clear hcell
    go_wp2_with fail
    go_loopw [7, 8] (fun v i wr => ∃ j : Nat, j ≤ s ∧ i = .int .i64 ((j : Int) - 1) ∧ v = .int .u64 ((valB ((b.take s).drop j) % 18446744073709551616 : Nat) : Int) ∧ wr = w') (fun _ i _ => (intOf i + 1).toNat)
    case atStart => exact ⟨s, by omega, rfl, by rw [List.drop_of_length_le (by rw [List.length_take]; omega)]; rfl, rfl⟩
    case round =>
      obtain ⟨j, hj, rfl, rfl, hw⟩ := hrel
      obtain ⟨W, hW⟩ : ∃ W, W = wr := ⟨_, rfl⟩
      rw [← hW] at hw ⊢
      subst hw
      clear hW
      obtain ⟨q, hq⟩ : ∃ q, q = valB ((b.take s).drop j) % 18446744073709551616 := ⟨_, rfl⟩
      rw [← hq]
      have hq64 : q < 18446744073709551616 := by rw [hq]; exact Nat.mod_lt _ (by decide)
      have Hq := Lib.hid hq
      clear hq
      by_cases hlt : 1 ≤ j
      · obtain ⟨k, hk⟩ : ∃ k, k = j - 1 := ⟨_, rfl⟩
        have hjk : (j : Int) - 1 = (k : Int) := by omega
        rw [hjk]
        have c0 := Hcell.out k (by omega)
        obtain ⟨x, hx⟩ : ∃ x, x = rd b k := ⟨_, rfl⟩
        rw [← hx] at c0
        have hx255 : 0 ≤ x ∧ x ≤ 255 := by rw [hx, rd_getElem (by rw [Hl.out]; omega)]; exact Hb.out _ (List.getElem_mem _)
        obtain ⟨hx0, hx1⟩ := hx255
        have hv : valB ((b.take s).drop k) = (x % 128).toNat + 128 * valB ((b.take s).drop j) := by
          rw [valB_drop (by rw [List.length_take, Hl.out]; omega), take_rdl (by omega), ← hx, show k + 1 = j by omega]
        have HV := Lib.hid hv
        have Hk := Lib.hid hk
        have hkn : k < n := by omega
        clear hx hv hk hjk
        go_wp2_with fail
        go_roundw
        case rel =>
          refine ⟨k, by have := Hk.out; omega, by go_num, ?_, trivial⟩
          rw [HV.out]
          have hq := Hq.out
          congr 1
          first | omega | (rw [IntKind.wrap_u64]; omega) | (rw [IntKind.wrap_u64, IntKind.wrap_u64]; omega)
        case measure => (have := Hk.out; first | (simp [intOf]; omega) | (simp [intOf]))
      · obtain rfl : j = 0 := by omega
        have hq := Hq.out
        rw [List.drop_zero] at hq
        have Hq0 := Lib.hid hq
        have h10 := lebU_10 (n := q) hq64
        obtain ⟨lq, hlq⟩ : ∃ l, l = (lebU q).length := ⟨_, rfl⟩
        have Hlq := Lib.hid hlq
        obtain ⟨sa, hsa⟩ : ∃ l, l = strOfNums (lebU q) := ⟨_, rfl⟩
        have Hsa := Lib.hid hsa
        obtain ⟨sb, hsb⟩ : ∃ l, l = strOfNums (b.take s) := ⟨_, rfl⟩
        have Hsb := Lib.hid hsb
        have hiff : sa = sb ↔ lebU q = b.take s := by rw [hsa, hsb]; exact strOf_inj (lebU_byte q) (fun x hx => Hb.out x (List.mem_of_mem_take hx))
        have htk : Rd W .u8 (some ⟨b0, o0, none⟩) s (b.take s) := ⟨by rw [List.length_take, Hl.out]; omega, fun _ => ⟨b0, o0, rfl, fun j hj => by rw [take_rdl hj]; exact Hcell.out j (by omega)⟩⟩
        have Htk := Lib.hid htk
        have L0 : Later W W.drew := (Later.refl W).drew
        have hsc : s ≤ c := by omega
        by_cases he : lebU q = b.take s
        · have hne : (sa.toList == sb.toList) = true := by rw [tl_beq]; exact decide_eq_true (hiff.2 he)
          have hne2 : (sa.toList != sb.toList) = false := by rw [bne, hne]; rfl
          have Hg : Hid (IsGet b q s 0) := Lib.hid ⟨s, 0, Hs.out, .inr (.inl ⟨rfl, hq64, he, rfl, rfl⟩)⟩
          clear hq hlq hsa hsb hiff htk he h10
          go_upto_region 9 with fail
          refine wp_region_noPanic ?_
          refine wp_region_held_drew (S := fun W' => Later W W') (by kernel_rfl) (L0) (fun hHeld => ?_)
          refine' wpAnyH_take (i := 0) (oi := ⟨_, _, _, _, _, _⟩) (v := _) rfl (by kernel_rfl) (by kernel_rfl) (by kernel_rfl) (fun _ _ _ h => h) (Or.inl ⟨by rfl, ?hya0⟩) (by assumption) ?resta0
          case hya0 => (intro w hSw; (try dsimp only at hSw); go_simp; try with_reducible rfl)
          try simp only [Act.put, List.setIfInBounds_toArray, List.set_cons_zero, List.set_cons_succ]
          refine' wpAnyH_take (i := 3) (oi := ⟨_, _, _, _, _, _⟩) (v := _) rfl (by kernel_rfl) (by kernel_rfl) (by kernel_rfl) (fun _ _ _ h => h) (Or.inl ⟨by rfl, ?hya3⟩) (by assumption) ?resta3
          case hya3 => (intro w hSw; (try dsimp only at hSw); go_simp; try with_reducible rfl)
          try simp only [Act.put, List.setIfInBounds_toArray, List.set_cons_zero, List.set_cons_succ]
          refine' wpAnyH_take (i := 4) (oi := ⟨_, _, _, _, _, _⟩) (v := _) rfl (by kernel_rfl) (by kernel_rfl) (by kernel_rfl) (fun _ _ _ h => h) (Or.inl ⟨by rfl, ?hya4⟩) (by assumption) ?resta4
          case hya4 => (intro w hSw; (try dsimp only at hSw); go_simp; try with_reducible rfl)
          try simp only [Act.put, List.setIfInBounds_toArray, List.set_cons_zero, List.set_cons_succ]
          refine' wpAnyH_take (i := 5) (oi := ⟨_, _, _, _, _, _⟩) (v := _) rfl (by kernel_rfl) (by kernel_rfl) (by kernel_rfl) (fun _ _ _ h => h) (Or.inl ⟨by rfl, ?hya5⟩) (by assumption) ?resta5
          case hya5 => (intro w hSw; (try dsimp only at hSw); go_simp; try with_reducible rfl)
          try simp only [Act.put, List.setIfInBounds_toArray, List.set_cons_zero, List.set_cons_succ]
          refine wpAnyH_ready (rs := [1, 6]) (by kernel_rfl) (by simp) ?_
          refine AllReadyH.cons (o := ⟨_, _, _, _, _, _⟩) rfl (fun K hK => ?_) (AllReadyH.cons (o := ⟨_, _, _, _, _, _⟩) rfl (fun K hK => ?_) AllReadyH.nil)
          · go_simp
            go_at_call 33
            refine (rU_calls (q + 1) q _ (by omega) hq64).mono ?_
            rintro e wA ⟨vA, rfl, hoA, hbA⟩
            have LA : Later W wA := Later.step L0 hbA
            rw [← Hlq.out] at hoA
            obtain ⟨aA, cA, rfl, _, hrA⟩ := own_rd hoA
            have HrA := Lib.hid hrA
            clear hrA hoA hbA
            refine hK.out _ _ (LA) (fun hHeldN => ?_)
            clear hK K hHeld
            have hHeld := hHeldN
            clear hHeldN
            try simp only [Act.put, List.setIfInBounds_toArray, List.set_cons_zero, List.set_cons_succ]
            refine wpAnyH_ready (rs := [2, 6]) (by kernel_rfl) (by simp) ?_
            refine AllReadyH.cons (o := ⟨_, _, _, _, _, _⟩) rfl (fun K hK => ?_) (AllReadyH.cons (o := ⟨_, _, _, _, _, _⟩) rfl (fun K hK => ?_) AllReadyH.nil)
            · have cv := conv_all (c := cA) HrA.out
              rw [← Hsa.out] at cv
              go_simp
              clear cv
              refine hK.out _ _ (LA) (fun hHeldN => ?_)
              clear hK K hHeld
              have hHeld := hHeldN
              clear hHeldN
              try simp only [Act.put, List.setIfInBounds_toArray, List.set_cons_zero, List.set_cons_succ]
              refine wpAnyH_ready (rs := [6]) (by kernel_rfl) (by simp) ?_
              refine AllReadyH.cons (o := ⟨_, _, _, _, _, _⟩) rfl (fun K hK => ?_) AllReadyH.nil
              have cv := conv_all (c := c) (Htk.out.below (Later.bel LA))
              rw [← Hsb.out] at cv
              go_simp
              clear cv
              refine hK.out _ _ (LA) (fun hHeldN => ?_)
              clear hK K hHeld
              have hHeld := hHeldN
              clear hHeldN
              try simp only [Act.put, List.setIfInBounds_toArray, List.set_cons_zero, List.set_cons_succ]
              refine' wpAnyH_take (i := 7) (oi := ⟨_, _, _, _, _, _⟩) (v := _) rfl (by kernel_rfl) (by kernel_rfl) (by kernel_rfl) (fun _ _ _ h => h) (Or.inl ⟨by rfl, ?hyz1_7⟩) (by assumption) ?restz1_7
              case hyz1_7 => (intro w hSw; (try dsimp only at hSw); go_simp; try with_reducible rfl)
              try simp only [Act.put, List.setIfInBounds_toArray, List.set_cons_zero, List.set_cons_succ]
              refine wpAnyH_done (by kernel_rfl) ?_ _
              refine NoPanic.normal ?_
              have HBz := Lib.hid (Later.bel LA)
              go_wp2_with fail
              refine bodyPost_ret (v := .tuple #[.int .u64 q, .int .i64 s, .int .i64 0]) (by simp [results, Try.results36, go_sem]) rfl ?_
              exact ⟨q, s, 0, rfl, Hg.out, HBz.out⟩
            · have cv := conv_all (c := c) (Htk.out.below (Later.bel LA))
              rw [← Hsb.out] at cv
              go_simp
              clear cv
              refine hK.out _ _ (LA) (fun hHeldN => ?_)
              clear hK K hHeld
              have hHeld := hHeldN
              clear hHeldN
              try simp only [Act.put, List.setIfInBounds_toArray, List.set_cons_zero, List.set_cons_succ]
              refine wpAnyH_ready (rs := [2]) (by kernel_rfl) (by simp) ?_
              refine AllReadyH.cons (o := ⟨_, _, _, _, _, _⟩) rfl (fun K hK => ?_) AllReadyH.nil
              have cv := conv_all (c := cA) HrA.out
              rw [← Hsa.out] at cv
              go_simp
              clear cv
              refine hK.out _ _ (LA) (fun hHeldN => ?_)
              clear hK K hHeld
              have hHeld := hHeldN
              clear hHeldN
              try simp only [Act.put, List.setIfInBounds_toArray, List.set_cons_zero, List.set_cons_succ]
              refine' wpAnyH_take (i := 7) (oi := ⟨_, _, _, _, _, _⟩) (v := _) rfl (by kernel_rfl) (by kernel_rfl) (by kernel_rfl) (fun _ _ _ h => h) (Or.inl ⟨by rfl, ?hyz2_7⟩) (by assumption) ?restz2_7
              case hyz2_7 => (intro w hSw; (try dsimp only at hSw); go_simp; try with_reducible rfl)
              try simp only [Act.put, List.setIfInBounds_toArray, List.set_cons_zero, List.set_cons_succ]
              refine wpAnyH_done (by kernel_rfl) ?_ _
              refine NoPanic.normal ?_
              have HBz := Lib.hid (Later.bel LA)
              go_wp2_with fail
              refine bodyPost_ret (v := .tuple #[.int .u64 q, .int .i64 s, .int .i64 0]) (by simp [results, Try.results36, go_sem]) rfl ?_
              exact ⟨q, s, 0, rfl, Hg.out, HBz.out⟩
          · have cv := conv_all (c := c) (Htk.out.below (Later.bel L0))
            rw [← Hsb.out] at cv
            go_simp
            clear cv
            refine hK.out _ _ (L0) (fun hHeldN => ?_)
            clear hK K hHeld
            have hHeld := hHeldN
            clear hHeldN
            try simp only [Act.put, List.setIfInBounds_toArray, List.set_cons_zero, List.set_cons_succ]
            refine wpAnyH_ready (rs := [1]) (by kernel_rfl) (by simp) ?_
            refine AllReadyH.cons (o := ⟨_, _, _, _, _, _⟩) rfl (fun K hK => ?_) AllReadyH.nil
            go_simp
            go_at_call 33
            refine (rU_calls (q + 1) q _ (by omega) hq64).mono ?_
            rintro e wA ⟨vA, rfl, hoA, hbA⟩
            have LA : Later W wA := Later.step L0 hbA
            rw [← Hlq.out] at hoA
            obtain ⟨aA, cA, rfl, _, hrA⟩ := own_rd hoA
            have HrA := Lib.hid hrA
            clear hrA hoA hbA
            refine hK.out _ _ (LA) (fun hHeldN => ?_)
            clear hK K hHeld
            have hHeld := hHeldN
            clear hHeldN
            try simp only [Act.put, List.setIfInBounds_toArray, List.set_cons_zero, List.set_cons_succ]
            refine wpAnyH_ready (rs := [2]) (by kernel_rfl) (by simp) ?_
            refine AllReadyH.cons (o := ⟨_, _, _, _, _, _⟩) rfl (fun K hK => ?_) AllReadyH.nil
            have cv := conv_all (c := cA) HrA.out
            rw [← Hsa.out] at cv
            go_simp
            clear cv
            refine hK.out _ _ (LA) (fun hHeldN => ?_)
            clear hK K hHeld
            have hHeld := hHeldN
            clear hHeldN
            try simp only [Act.put, List.setIfInBounds_toArray, List.set_cons_zero, List.set_cons_succ]
            refine' wpAnyH_take (i := 7) (oi := ⟨_, _, _, _, _, _⟩) (v := _) rfl (by kernel_rfl) (by kernel_rfl) (by kernel_rfl) (fun _ _ _ h => h) (Or.inl ⟨by rfl, ?hyz3_7⟩) (by assumption) ?restz3_7
            case hyz3_7 => (intro w hSw; (try dsimp only at hSw); go_simp; try with_reducible rfl)
            try simp only [Act.put, List.setIfInBounds_toArray, List.set_cons_zero, List.set_cons_succ]
            refine wpAnyH_done (by kernel_rfl) ?_ _
            refine NoPanic.normal ?_
            have HBz := Lib.hid (Later.bel LA)
            go_wp2_with fail
            refine bodyPost_ret (v := .tuple #[.int .u64 q, .int .i64 s, .int .i64 0]) (by simp [results, Try.results36, go_sem]) rfl ?_
            exact ⟨q, s, 0, rfl, Hg.out, HBz.out⟩
        · have hne : (sa.toList == sb.toList) = false := by rw [tl_beq]; exact decide_eq_false (fun e => he (hiff.1 e))
          have hne2 : (sa.toList != sb.toList) = true := by rw [bne, hne]; rfl
          have Hg : Hid (IsGet b 0 0 3) := Lib.hid ⟨s, 0, Hs.out, .inr (.inr ⟨rfl, fun m hm e => he (by
            have hv := valB_leb m
            rw [e] at hv
            have : q = m := by rw [Hq0.out, hv]; exact Nat.mod_eq_of_lt hm
            rw [this, e]), rfl, rfl, rfl⟩)⟩
          clear hq hlq hsa hsb hiff htk he h10
          go_upto_region 9 with fail
          refine wp_region_noPanic ?_
          refine wp_region_held_drew (S := fun W' => Later W W') (by kernel_rfl) (L0) (fun hHeld => ?_)
          refine' wpAnyH_take (i := 0) (oi := ⟨_, _, _, _, _, _⟩) (v := _) rfl (by kernel_rfl) (by kernel_rfl) (by kernel_rfl) (fun _ _ _ h => h) (Or.inl ⟨by rfl, ?hyb0⟩) (by assumption) ?restb0
          case hyb0 => (intro w hSw; (try dsimp only at hSw); go_simp; try with_reducible rfl)
          try simp only [Act.put, List.setIfInBounds_toArray, List.set_cons_zero, List.set_cons_succ]
          refine' wpAnyH_take (i := 3) (oi := ⟨_, _, _, _, _, _⟩) (v := _) rfl (by kernel_rfl) (by kernel_rfl) (by kernel_rfl) (fun _ _ _ h => h) (Or.inl ⟨by rfl, ?hyb3⟩) (by assumption) ?restb3
          case hyb3 => (intro w hSw; (try dsimp only at hSw); go_simp; try with_reducible rfl)
          try simp only [Act.put, List.setIfInBounds_toArray, List.set_cons_zero, List.set_cons_succ]
          refine' wpAnyH_take (i := 4) (oi := ⟨_, _, _, _, _, _⟩) (v := _) rfl (by kernel_rfl) (by kernel_rfl) (by kernel_rfl) (fun _ _ _ h => h) (Or.inl ⟨by rfl, ?hyb4⟩) (by assumption) ?restb4
          case hyb4 => (intro w hSw; (try dsimp only at hSw); go_simp; try with_reducible rfl)
          try simp only [Act.put, List.setIfInBounds_toArray, List.set_cons_zero, List.set_cons_succ]
          refine' wpAnyH_take (i := 5) (oi := ⟨_, _, _, _, _, _⟩) (v := _) rfl (by kernel_rfl) (by kernel_rfl) (by kernel_rfl) (fun _ _ _ h => h) (Or.inl ⟨by rfl, ?hyb5⟩) (by assumption) ?restb5
          case hyb5 => (intro w hSw; (try dsimp only at hSw); go_simp; try with_reducible rfl)
          try simp only [Act.put, List.setIfInBounds_toArray, List.set_cons_zero, List.set_cons_succ]
          refine wpAnyH_ready (rs := [1, 6]) (by kernel_rfl) (by simp) ?_
          refine AllReadyH.cons (o := ⟨_, _, _, _, _, _⟩) rfl (fun K hK => ?_) (AllReadyH.cons (o := ⟨_, _, _, _, _, _⟩) rfl (fun K hK => ?_) AllReadyH.nil)
          · go_simp
            go_at_call 33
            refine (rU_calls (q + 1) q _ (by omega) hq64).mono ?_
            rintro e wA ⟨vA, rfl, hoA, hbA⟩
            have LA : Later W wA := Later.step L0 hbA
            rw [← Hlq.out] at hoA
            obtain ⟨aA, cA, rfl, _, hrA⟩ := own_rd hoA
            have HrA := Lib.hid hrA
            clear hrA hoA hbA
            refine hK.out _ _ (LA) (fun hHeldN => ?_)
            clear hK K hHeld
            have hHeld := hHeldN
            clear hHeldN
            try simp only [Act.put, List.setIfInBounds_toArray, List.set_cons_zero, List.set_cons_succ]
            refine wpAnyH_ready (rs := [2, 6]) (by kernel_rfl) (by simp) ?_
            refine AllReadyH.cons (o := ⟨_, _, _, _, _, _⟩) rfl (fun K hK => ?_) (AllReadyH.cons (o := ⟨_, _, _, _, _, _⟩) rfl (fun K hK => ?_) AllReadyH.nil)
            · have cv := conv_all (c := cA) HrA.out
              rw [← Hsa.out] at cv
              go_simp
              clear cv
              refine hK.out _ _ (LA) (fun hHeldN => ?_)
              clear hK K hHeld
              have hHeld := hHeldN
              clear hHeldN
              try simp only [Act.put, List.setIfInBounds_toArray, List.set_cons_zero, List.set_cons_succ]
              refine wpAnyH_ready (rs := [6]) (by kernel_rfl) (by simp) ?_
              refine AllReadyH.cons (o := ⟨_, _, _, _, _, _⟩) rfl (fun K hK => ?_) AllReadyH.nil
              have cv := conv_all (c := c) (Htk.out.below (Later.bel LA))
              rw [← Hsb.out] at cv
              go_simp
              clear cv
              refine hK.out _ _ (LA) (fun hHeldN => ?_)
              clear hK K hHeld
              have hHeld := hHeldN
              clear hHeldN
              try simp only [Act.put, List.setIfInBounds_toArray, List.set_cons_zero, List.set_cons_succ]
              refine' wpAnyH_take (i := 7) (oi := ⟨_, _, _, _, _, _⟩) (v := _) rfl (by kernel_rfl) (by kernel_rfl) (by kernel_rfl) (fun _ _ _ h => h) (Or.inl ⟨by rfl, ?hyz51_7⟩) (by assumption) ?restz51_7
              case hyz51_7 => (intro w hSw; (try dsimp only at hSw); go_simp; try with_reducible rfl)
              try simp only [Act.put, List.setIfInBounds_toArray, List.set_cons_zero, List.set_cons_succ]
              refine wpAnyH_done (by kernel_rfl) ?_ _
              refine NoPanic.normal ?_
              have HBz := Lib.hid (Later.bel LA)
              go_wp2_with fail
              refine bodyPost_ret (v := .tuple #[.int .u64 0, .int .i64 0, .int .i64 3]) (by simp [results, Try.results36, go_sem]) rfl ?_
              exact ⟨0, 0, 3, rfl, Hg.out, HBz.out⟩
            · have cv := conv_all (c := c) (Htk.out.below (Later.bel LA))
              rw [← Hsb.out] at cv
              go_simp
              clear cv
              refine hK.out _ _ (LA) (fun hHeldN => ?_)
              clear hK K hHeld
              have hHeld := hHeldN
              clear hHeldN
              try simp only [Act.put, List.setIfInBounds_toArray, List.set_cons_zero, List.set_cons_succ]
              refine wpAnyH_ready (rs := [2]) (by kernel_rfl) (by simp) ?_
              refine AllReadyH.cons (o := ⟨_, _, _, _, _, _⟩) rfl (fun K hK => ?_) AllReadyH.nil
              have cv := conv_all (c := cA) HrA.out
              rw [← Hsa.out] at cv
              go_simp
              clear cv
              refine hK.out _ _ (LA) (fun hHeldN => ?_)
              clear hK K hHeld
              have hHeld := hHeldN
              clear hHeldN
              try simp only [Act.put, List.setIfInBounds_toArray, List.set_cons_zero, List.set_cons_succ]
              refine' wpAnyH_take (i := 7) (oi := ⟨_, _, _, _, _, _⟩) (v := _) rfl (by kernel_rfl) (by kernel_rfl) (by kernel_rfl) (fun _ _ _ h => h) (Or.inl ⟨by rfl, ?hyz52_7⟩) (by assumption) ?restz52_7
              case hyz52_7 => (intro w hSw; (try dsimp only at hSw); go_simp; try with_reducible rfl)
              try simp only [Act.put, List.setIfInBounds_toArray, List.set_cons_zero, List.set_cons_succ]
              refine wpAnyH_done (by kernel_rfl) ?_ _
              refine NoPanic.normal ?_
              have HBz := Lib.hid (Later.bel LA)
              go_wp2_with fail
              refine bodyPost_ret (v := .tuple #[.int .u64 0, .int .i64 0, .int .i64 3]) (by simp [results, Try.results36, go_sem]) rfl ?_
              exact ⟨0, 0, 3, rfl, Hg.out, HBz.out⟩
          · have cv := conv_all (c := c) (Htk.out.below (Later.bel L0))
            rw [← Hsb.out] at cv
            go_simp
            clear cv
            refine hK.out _ _ (L0) (fun hHeldN => ?_)
            clear hK K hHeld
            have hHeld := hHeldN
            clear hHeldN
            try simp only [Act.put, List.setIfInBounds_toArray, List.set_cons_zero, List.set_cons_succ]
            refine wpAnyH_ready (rs := [1]) (by kernel_rfl) (by simp) ?_
            refine AllReadyH.cons (o := ⟨_, _, _, _, _, _⟩) rfl (fun K hK => ?_) AllReadyH.nil
            go_simp
            go_at_call 33
            refine (rU_calls (q + 1) q _ (by omega) hq64).mono ?_
            rintro e wA ⟨vA, rfl, hoA, hbA⟩
            have LA : Later W wA := Later.step L0 hbA
            rw [← Hlq.out] at hoA
            obtain ⟨aA, cA, rfl, _, hrA⟩ := own_rd hoA
            have HrA := Lib.hid hrA
            clear hrA hoA hbA
            refine hK.out _ _ (LA) (fun hHeldN => ?_)
            clear hK K hHeld
            have hHeld := hHeldN
            clear hHeldN
            try simp only [Act.put, List.setIfInBounds_toArray, List.set_cons_zero, List.set_cons_succ]
            refine wpAnyH_ready (rs := [2]) (by kernel_rfl) (by simp) ?_
            refine AllReadyH.cons (o := ⟨_, _, _, _, _, _⟩) rfl (fun K hK => ?_) AllReadyH.nil
            have cv := conv_all (c := cA) HrA.out
            rw [← Hsa.out] at cv
            go_simp
            clear cv
            refine hK.out _ _ (LA) (fun hHeldN => ?_)
            clear hK K hHeld
            have hHeld := hHeldN
            clear hHeldN
            try simp only [Act.put, List.setIfInBounds_toArray, List.set_cons_zero, List.set_cons_succ]
            refine' wpAnyH_take (i := 7) (oi := ⟨_, _, _, _, _, _⟩) (v := _) rfl (by kernel_rfl) (by kernel_rfl) (by kernel_rfl) (fun _ _ _ h => h) (Or.inl ⟨by rfl, ?hyz53_7⟩) (by assumption) ?restz53_7
            case hyz53_7 => (intro w hSw; (try dsimp only at hSw); go_simp; try with_reducible rfl)
            try simp only [Act.put, List.setIfInBounds_toArray, List.set_cons_zero, List.set_cons_succ]
            refine wpAnyH_done (by kernel_rfl) ?_ _
            refine NoPanic.normal ?_
            have HBz := Lib.hid (Later.bel LA)
            go_wp2_with fail
            refine bodyPost_ret (v := .tuple #[.int .u64 0, .int .i64 0, .int .i64 3]) (by simp [results, Try.results36, go_sem]) rfl ?_
            exact ⟨0, 0, 3, rfl, Hg.out, HBz.out⟩
  · have hfb : (f == 0) = false := by simpa using hf
    go_wp2_with fail
    refine bodyPost_ret (v := .tuple #[.int .u64 0, .int .i64 0, .int .i64 f]) (by simp [results, Try.results36, go_sem]) rfl ?_
    exact ⟨0, 0, f, rfl, get_err Hs.out hf, Below.refl _ _⟩
end Go.Proofs.Ytekhofnfikcpnaa
/-
  The walk of the reference's Get.
-/
namespace Go.Proofs.Ytekhofnfikcpnaa
open Go.RowKit

theorem Less_size {b : List Int} {p v : Nat} (h : v ≤ 16) : (textAt b p v).size ≤ 100000 := by
  unfold textAt
  rw [strOfNums_size, List.length_take]
  omega
set_option maxHeartbeats 1000000 in
set_option maxRecDepth 100000 in
theorem rGet_calls (au : ByteArray) (A : Option Addr) (n c : Nat) (b : List Int) (w : World) (hau9 : au.size ≤ 100000) (hR : BSl w A n c b) (hb : ∀ x ∈ b, 0 ≤ x ∧ x ≤ 255) (hn : n ≤ 100000) :
    Calls Try.prog 21 #[.string au, .slice A n c] w (GetEnd w au b) := by
  have HR := Lib.hid hR
  have Hl := Lib.hid hR.rd.1
  have Hb := Lib.hid hb
  have hcap := hR.cap
  clear hR hb
  go_enter Try.func21, Try.ntmps21
  go_wp2_with fail
  refine (Num_calls A n c b w HR.out.rd HR.out.nil hcap Hb.out (by omega)).mono ?_
  rintro e w1 ⟨N, k0, f, rfl, Hg, hb1⟩
  have HB1 := Lib.hid hb1
  have hs1 := hb1.size
  clear hb1
  by_cases hf : f = 0
  · subst hf
    obtain ⟨hk1, hk10, hkn, hN64⟩ := isGet_rng Hg.out
    rw [Hl.out] at hkn
    obtain ⟨b0, o0, e0, hcell0⟩ := HR.out.rd.2 (by omega)
    subst e0
    have hb0w : b0 < w.heap.size := World.block_lt_of_cell? _ _ (hcell0 0 (by omega))
    have hlit := World.ownsRow_lit (base := w.heap.size) (size := 1) (e := 9) w1 #[.string au] 1 hs1 (by simp [maxLen]) rfl
    have Hlit := Lib.hid hlit
    have HBl := Lib.hid (HB1.out.alloc hs1 (.cells #[.string au] 9))
    clear hcell0 hlit
    go_wp2_with fail
    go_loopw [8, 10, 11] (fun vp vo i wr => ∃ (i' p : Nat) (out : List ByteArray), i' ≤ N ∧ i = .int .u64 i' ∧ p ≤ n ∧ i' ≤ p ∧ vp = .int .i64 p ∧ Hid (∀ s ∈ out, s.size ≤ 100000) ∧ Hid (wr.ownsRow w.heap.size 9 1 vo (i' + 1) (strs out)) ∧ Hid (∀ T q e, Reads au b (N - i') p out T q e → Reads au b N k0 [au] T q e) ∧ Hid (Below w.heap.size w wr)) (fun _ _ i _ => N - (intOf i).toNat)
    case atStart => exact ⟨0, k0, [au], by omega, rfl, hkn, by omega, rfl, Lib.hid (fun s hs => (by rw [show s = au by simpa using hs]; exact hau9)), Hlit.out, Lib.hid (fun T q e h => h), HBl.out⟩
    case round =>
      obtain ⟨i', p, out, hi, rfl, hp, hip, rfl, HS, HO, HC, HBr⟩ := hrel
      obtain ⟨W, hW⟩ : ∃ W, W = wr := ⟨_, rfl⟩
      subst hW
      have hol : out.length = i' + 1 := by have := HO.out.1; rw [strs_length] at this; omega
      have Hol := Lib.hid hol
      obtain ⟨Ao, co, hvo⟩ := own_slice HO.out
      subst hvo
      obtain ⟨nm5, hnm5⟩ : ∃ x, x = i' + 1 := ⟨_, rfl⟩
      rw [← hnm5] at HO ⊢
      have hnm59 : nm5 ≤ 100001 := by omega
      have hnm51 : 1 ≤ nm5 := by omega
      have Hn5 := Lib.hid hnm5
      have HRW := Lib.hid (HR.out.old HBr.out (fun b1 o1 e => by cases e; exact hb0w))
      clear hol hnm5
      by_cases hlt : i' < N
      · obtain ⟨m, hm⟩ : ∃ m, N - i' = m + 1 := ⟨N - i' - 1, by omega⟩
        have Hm := Lib.hid hm
        have hsl : ∀ o', (o' = o0 + p ∨ n - p = 0) → BSl W (some ⟨b0, o', none⟩) (n - p) (c - p) (b.drop p) := fun o' ho => by
          refine ⟨?_, (fun e => by cases e), by omega⟩
          rcases ho with rfl | h0
          · exact rd_drop_at HRW.out.rd (by omega) hp
          · exact ⟨by rw [List.length_drop, Hl.out], fun h => by omega⟩
        have Hsl := Lib.hid hsl
        clear hm hsl
        go_upto_region 8 with fail
        go_cut [12, 13, 14] from 27 to 97 (fun x y z wx => ∃ (v k : Nat) (f2 : Int), x = .int .u64 v ∧ y = .int .i64 k ∧ z = .int .i64 f2 ∧ Hid (IsGet (b.drop p) v k f2) ∧ Hid (Below W.heap.size W wx))
        case first =>
          by_cases hpc : p < c
          · go_wp2_with fail
            refine (Num_calls (some ⟨b0, o0 + p, none⟩) (n - p) (c - p) (b.drop p) W (Hsl.out _ (.inl rfl)).rd (fun e => by cases e) (by omega) (fun x hx => Hb.out x (List.mem_of_mem_drop hx)) (by omega)).mono ?_
            rintro e w2 ⟨v, k, f2, rfl, Hg2, hb2⟩
            have HB2 := Lib.hid hb2
            clear hb2
            go_wp2_with fail
            go_meet
            exact ⟨v, k, f2, rfl, rfl, rfl, Hg2.out, HB2.out⟩
          · go_wp2_with fail
            refine (Num_calls (some ⟨b0, o0, none⟩) (n - p) (c - p) (b.drop p) W (Hsl.out _ (.inr (by omega))).rd (fun e => by cases e) (by omega) (fun x hx => Hb.out x (List.mem_of_mem_drop hx)) (by omega)).mono ?_
            rintro e w2 ⟨v, k, f2, rfl, Hg2, hb2⟩
            have HB2 := Lib.hid hb2
            clear hb2
            go_wp2_with fail
            go_meet
            exact ⟨v, k, f2, rfl, rfl, rfl, Hg2.out, HB2.out⟩
        case rest =>
          obtain ⟨v, k, f2, rfl, rfl, rfl, Hg2, HBw⟩ := hcut
          obtain ⟨w3, hw3⟩ : ∃ W, W = wc := ⟨_, rfl⟩
          subst hw3
          have HB3 := Lib.hid (below_seq HBr.out (Nat.le_refl _) HBw.out)
          have HO3 := Lib.hid (own_below HO.out HBw.out)
          clear Hsl
          by_cases hf2 : f2 = 0
          · subst hf2
            have hrk := isGet_rng Hg2.out
            rw [List.length_drop, Hl.out] at hrk
            obtain ⟨hk21, hk210, hk2n, hv64⟩ := hrk
            by_cases hv1 : 1 ≤ v
            · have hv0 : ((v : Int) == 0) = false := by simp; omega
              by_cases hv16 : v ≤ 16
              · obtain ⟨pk, hpk⟩ : ∃ x, x = p + k := ⟨_, rfl⟩
                obtain ⟨p2, hp2⟩ : ∃ x, x = pk + v := ⟨_, rfl⟩
                have hadd1 : (p : Int) + k = (pk : Int) := by omega
                have hadd2 : (pk : Int) + v = (p2 : Int) := by omega
                have hpkn : pk ≤ n := by omega
                by_cases hfit9 : p2 ≤ n
                · have hfit : p + k + v ≤ b.length := by rw [Hl.out]; omega
                  obtain ⟨a, ha⟩ : ∃ a, a = textAt b (p + k) v := ⟨_, rfl⟩
                  have hcv : (convert 39 9 (.slice (some ⟨b0, o0 + pk, none⟩) v (c - pk))).run Try.prog w3 = .ok (.string a) w3 := by
                    have hrd := rd_take_at (rd_drop_at (HR.out.old HB3.out (fun b1 o1 e => by cases e; exact hb0w)).rd (by omega) hpkn) (v := v) (by omega)
                    rw [ha, ← hpk]
                    exact conv_all hrd
                  have hvq : p2 - pk = v := by omega
                  have hpkc : pk < c := by omega
                  have hpkp : pk ≤ p2 := by omega
                  have hp2c : p2 ≤ c := by omega
                  have has : a.size ≤ 100000 := by rw [ha]; exact Less_size hv16
                  have hip2 : i' + 1 ≤ p2 := by omega
                  have Ha := Lib.hid ha
                  have Hpk := Lib.hid hpk
                  have Hp2 := Lib.hid hp2
                  have Hfit := Lib.hid hfit
                  obtain ⟨_, _, eo, _, hro, _⟩ := own_rdS HO3.out
                  cases eo
                  obtain ⟨bo, oo2, eo2, hco⟩ := hro.2 (by omega)
                  subst eo2
                  obtain ⟨l, hl⟩ : ∃ l, l = str out (nm5 - 1) := ⟨_, rfl⟩
                  have zl := hco (nm5 - 1) (by omega)
                  rw [← hl] at zl
                  have hls : l.size ≤ 100000 := by
                    rw [hl]
                    unfold str
                    rw [List.getD_eq_getElem?_getD, List.getElem?_eq_getElem (by rw [Hol.out, ← Hn5.out]; omega)]
                    exact HS.out _ (List.getElem_mem _)
                  have Hlx := Lib.hid hl
                  have hbad1 : ∀ (_ : a = au ∨ (1 < nm5 ∧ ¬ ltB l a)), BadNm au out (textAt b (p + k) v) := fun h => by
                    rw [← Ha.out]
                    rcases h with h | ⟨h1, h2⟩
                    · exact .inl h
                    · refine .inr ⟨by rw [Hol.out, ← Hn5.out]; exact h1, ?_⟩
                      rw [Hol.out, ← Hn5.out, ← Hlx.out]; exact h2
                  have hbad2 : (¬ (a = au ∨ (1 < nm5 ∧ ¬ ltB l a))) → ¬ BadNm au out (textAt b (p + k) v) := fun h hb => by
                    rw [← Ha.out] at hb
                    rcases hb with hb | ⟨h1, h2⟩
                    · exact h (.inl hb)
                    · rw [Hol.out, ← Hn5.out, ← Hlx.out] at h2
                      rw [Hol.out, ← Hn5.out] at h1
                      exact h (.inr ⟨h1, h2⟩)
                  have Hbad1 := Lib.hid hbad1
                  have Hbad2 := Lib.hid hbad2
                  have hs3 := HB3.out.size
                  clear ha hpk hp2 hfit hl hco hro hbad1 hbad2 hk2n
                  by_cases hau : a = au
                  · have hq1 : (a.toList == au.toList) = true := by rw [tl_beq]; exact decide_eq_true hau
                    have hq2 : a.toList = au.toList := by rw [hau]
                    have Hau := Lib.hid hau
                    clear hau
                    go_wp2_with fail
                    refine bodyPost_ret (v := .tuple #[.slice none 0 0, .int .i64 0, .int .i64 3]) (by simp [results, Try.results21, go_sem]) rfl ?_
                    exact ⟨HB3.out, [], 0, 3, _, ⟨N, k0, 0, Hg.out, .inr ⟨rfl, HC.out _ _ _ (by rw [Hm.out]; exact .form Hg2.out hv1 hv16 Hfit.out (Hbad1.out (.inl Hau.out)))⟩⟩, by simp, rfl, World.ownsRow_nil _ _ _ _⟩
                  · have hq1 : (a.toList == au.toList) = false := by rw [tl_beq]; exact decide_eq_false hau
                    have hq2 : ¬ a.toList = au.toList := fun e => hau ((tl_iff _ _).1 e)
                    have Hau := Lib.hid hau
                    clear hau
                    by_cases h1 : 0 < i'
                    · have h1n : 1 < nm5 := by have := Hn5.out; omega
                      have hidx : (nm5 : Int) - 1 = ((nm5 - 1 : Nat) : Int) := by omega
                      go_wp2_with fail
                      refine (less_calls l a _ hls has).mono ?_
                      rintro e w4 ⟨cl, rfl, Hcl, hb4⟩
                      have HB4 := Lib.hid (below_seq HB3.out (Nat.le_refl _) hb4)
                      have HO4 := Lib.hid (own_below HO3.out hb4)
                      have hs4 := HB4.out.size
                      clear hb4 hcv zl
                      cases cl
                      · have Hla : Hid (¬ ltB l a) := Lib.hid (fun h => absurd (Hcl.out.2 h) (by decide))
                        go_wp2_with fail
                        refine bodyPost_ret (v := .tuple #[.slice none 0 0, .int .i64 0, .int .i64 3]) (by simp [results, Try.results21, go_sem]) rfl ?_
                        exact ⟨HB4.out, [], 0, 3, _, ⟨N, k0, 0, Hg.out, .inr ⟨rfl, HC.out _ _ _ (by rw [Hm.out]; exact .form Hg2.out hv1 hv16 Hfit.out (Hbad1.out (.inr ⟨h1n, Hla.out⟩)))⟩⟩, by simp, rfl, World.ownsRow_nil _ _ _ _⟩
                      · have Hla : Hid (ltB l a) := Lib.hid (Hcl.out.1 (by trivial))
                        go_wp2_with (at_builtin; refine wpList_app3 rfl _ _ rfl elStr HO4.out rfl rfl rfl rfl rfl (by omega) hs4 ?_; intro g5 cg w5 hown5 hfr5 hat5 hlt5; have Hown5 := Lib.hid hown5; have Hfr5 := Lib.hid hfr5; clear hown5 hfr5 hat5)
                        go_roundw
                        case rel =>
                          have h5 := Hown5.out
                          rw [show strs out ++ (#[Value.string a] : Array Value).toList = strs (out ++ [a]) by rw [strs_app]; rfl, show nm5 + 1 = i' + 1 + 1 by rw [Hn5.out]] at h5
                          refine ⟨i' + 1, p2, out ++ [a], by omega, by go_num, hfit9, hip2, rfl, Lib.hid (fun s hs => ?_), ?_, Lib.hid (fun T q e h => HC.out T q e (by
                            rw [Hm.out]
                            refine .next Hg2.out hv1 hv16 Hfit.out (Hbad2.out (by
                              rintro (h9 | ⟨h8, h9⟩)
                              · exact Hau.out h9
                              · exact h9 Hla.out)) ?_
                            rw [← Ha.out, ← Hpk.out, ← Hp2.out, show m = N - (i' + 1) by have := Hm.out; omega]
                            exact h)), HB4.out.trans (Hfr5.out.below hs4 (fun o ho i e => by simp at ho; subst ho; exact (HO4.out.lt i e).1))⟩
                          · rcases List.mem_append.1 hs with h9 | h9
                            · exact HS.out s h9
                            · obtain rfl : s = a := by simpa using h9
                              exact has
                          · rw [Hn5.out]
                            exact h5
                        case measure => simp [intOf]; omega
                    · have h1n : ¬ 1 < nm5 := by have := Hn5.out; omega
                      have hi0 : i' = 0 := by omega
                      go_wp2_with (at_builtin; refine wpList_app3 rfl _ _ rfl elStr HO3.out rfl rfl rfl rfl rfl (by omega) hs3 ?_; intro g5 cg w5 hown5 hfr5 hat5 hlt5; have Hown5 := Lib.hid hown5; have Hfr5 := Lib.hid hfr5; clear hown5 hfr5 hat5)
                      go_roundw
                      case rel =>
                        have h5 := Hown5.out
                        rw [show strs out ++ (#[Value.string a] : Array Value).toList = strs (out ++ [a]) by rw [strs_app]; rfl, show nm5 + 1 = i' + 1 + 1 by rw [Hn5.out]] at h5
                        refine ⟨i' + 1, p2, out ++ [a], by omega, by go_num, hfit9, hip2, rfl, Lib.hid (fun s hs => ?_), ?_, Lib.hid (fun T q e h => HC.out T q e (by
                          rw [Hm.out]
                          refine .next Hg2.out hv1 hv16 Hfit.out (Hbad2.out (by
                            rintro (h9 | ⟨h8, h9⟩)
                            · exact Hau.out h9
                            · exact h1n h8)) ?_
                          rw [← Ha.out, ← Hpk.out, ← Hp2.out, show m = N - (i' + 1) by have := Hm.out; omega]
                          exact h)), HB3.out.trans (Hfr5.out.below hs3 (fun o ho i e => by simp at ho; subst ho; exact (HO3.out.lt i e).1))⟩
                        · rcases List.mem_append.1 hs with h9 | h9
                          · exact HS.out s h9
                          · obtain rfl : s = a := by simpa using h9
                            exact has
                        · rw [Hn5.out]
                          exact h5
                      case measure => simp [intOf]; omega
                · have Hsh := Lib.hid (show b.length < p + k + v by rw [Hl.out]; omega)
                  clear hpk hp2
                  go_wp2_with fail
                  refine bodyPost_ret (v := .tuple #[.slice none 0 0, .int .i64 0, .int .i64 2]) (by simp [results, Try.results21, go_sem]) rfl ?_
                  exact ⟨HB3.out, [], 0, 2, _, ⟨N, k0, 0, Hg.out, .inr ⟨rfl, HC.out _ _ _ (by rw [Hm.out]; exact .short Hg2.out hv1 hv16 Hsh.out)⟩⟩, by simp, rfl, World.ownsRow_nil _ _ _ _⟩
              · have Hv := Lib.hid (show v < 1 ∨ 16 < v by omega)
                go_wp2_with fail
                refine bodyPost_ret (v := .tuple #[.slice none 0 0, .int .i64 0, .int .i64 4]) (by simp [results, Try.results21, go_sem]) rfl ?_
                exact ⟨HB3.out, [], 0, 4, _, ⟨N, k0, 0, Hg.out, .inr ⟨rfl, HC.out _ _ _ (by rw [Hm.out]; exact .long Hg2.out Hv.out)⟩⟩, by simp, rfl, World.ownsRow_nil _ _ _ _⟩
            · have hv0 : ((v : Int) == 0) = true := by simp; omega
              have Hv := Lib.hid (show v < 1 ∨ 16 < v by omega)
              go_wp2_with fail
              refine bodyPost_ret (v := .tuple #[.slice none 0 0, .int .i64 0, .int .i64 4]) (by simp [results, Try.results21, go_sem]) rfl ?_
              exact ⟨HB3.out, [], 0, 4, _, ⟨N, k0, 0, Hg.out, .inr ⟨rfl, HC.out _ _ _ (by rw [Hm.out]; exact .long Hg2.out Hv.out)⟩⟩, by simp, rfl, World.ownsRow_nil _ _ _ _⟩
          · have hfb2 : (f2 == 0) = false := by simpa using hf2
            have Hf2 := Lib.hid hf2
            clear hf2
            go_wp2_with fail
            refine bodyPost_ret (v := .tuple #[.slice none 0 0, .int .i64 0, .int .i64 f2]) (by simp [results, Try.results21, go_sem]) rfl ?_
            exact ⟨HB3.out, [], 0, f2, _, ⟨N, k0, 0, Hg.out, .inr ⟨rfl, HC.out _ _ _ (by rw [Hm.out]; exact .num Hg2.out Hf2.out)⟩⟩, by simp, rfl, World.ownsRow_nil _ _ _ _⟩
      · obtain rfl : i' = N := by omega
        go_wp2_with fail
        refine bodyPost_ret (v := .tuple #[.slice Ao nm5 co, .int .i64 p, .int .i64 0]) (by simp [results, Try.results21, go_sem]) rfl ?_
        refine ⟨HBr.out, out, p, 0, _, ⟨i', k0, 0, Hg.out, .inr ⟨rfl, HC.out _ _ _ (by rw [Nat.sub_self]; exact .done p out)⟩⟩, by rw [Hol.out]; omega, rfl, ?_⟩
        rw [Hol.out, ← Hn5.out]
        exact HO.out
  · have hfb : (f == 0) = false := by simpa using hf
    go_wp2_with fail
    refine bodyPost_ret (v := .tuple #[.slice none 0 0, .int .i64 0, .int .i64 f]) (by simp [results, Try.results21, go_sem]) rfl ?_
    exact ⟨HB1.out, [], 0, f, _, ⟨N, k0, f, Hg.out, .inl ⟨hf, rfl, rfl, rfl⟩⟩, by simp, rfl, World.ownsRow_nil _ _ _ _⟩
end Go.Proofs.Ytekhofnfikcpnaa
