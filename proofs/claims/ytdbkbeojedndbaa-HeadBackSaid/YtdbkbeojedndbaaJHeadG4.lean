/-
  Texts joined into one file: NumW, TabB, UtfP.
-/
import Derived.Test.YtdbkbeojedndbaaJHeadG3
import Derived.Test.YtdbkbeojedndbaaJHeadG2
import Derived.Deep.RegionHeld3
import Derived.Deep.Cut
import Derived.Deep.CutRange
import Derived.Deep.CutBlock
import Derived.Test.YtdbkbeojedndbaaJHeadG1
/-
  The walk of the reference's Num. Printed by gen_num.py.
-/
namespace Go.Proofs.Ytdbkbeojedndbaa
open Go.RowKit

theorem nums_strOf {l : List Int} (h : ∀ x ∈ l, 0 ≤ x ∧ x ≤ 255) : nums (strOfNums l) = l := by
  unfold nums strOfNums
  show ((l.map fun n => UInt8.ofNat n.toNat).toArray.toList).map _ = l
  rw [List.toList_toArray, List.map_map]
  conv => rhs; rw [← List.map_id l]
  refine List.map_congr_left (fun x hx => ?_)
  have := h x hx
  show ((UInt8.ofNat x.toNat).toNat : Int) = x
  rw [UInt8.toNat_ofNat_of_lt' (by show _ < 256; omega)]
  omega
theorem strOf_inj {l m : List Int} (hl : ∀ x ∈ l, 0 ≤ x ∧ x ≤ 255) (hm : ∀ x ∈ m, 0 ≤ x ∧ x ≤ 255) : strOfNums l = strOfNums m ↔ l = m :=
  ⟨fun e => by rw [← nums_strOf hl, e, nums_strOf hm], fun e => by rw [e]⟩
theorem valB_drop {l : List Int} {j : Nat} (h : j < l.length) : valB (l.drop j) = (rd l j % 128).toNat + 128 * valB (l.drop (j + 1)) := by
  rw [List.drop_eq_getElem_cons h, valB, rd_getElem h]
set_option maxHeartbeats 1000000 in
set_option maxRecDepth 100000 in
theorem Num18_calls (A : Option Addr) (n c : Nat) (b : List Int) (w : World) (hR : Rd w .u8 A n b) (hA : A = none → n = 0 ∧ c = 0) (hc : n ≤ c) (hb : ∀ x ∈ b, 0 ≤ x ∧ x ≤ 255) (hn : n ≤ 1000000) :
    Calls Try.prog 70 #[.slice A n c] w fun e w' => ∃ (v k : Nat) (f : Int), e = .returned (.tuple #[.int .u64 v, .int .i64 k, .int .i64 f]) ∧ Hid (IsGet b v k f) ∧ Below w.heap.size w w' := by
  have HR := Lib.hid hR
  have Hl := Lib.hid hR.1
  have Hb := Lib.hid hb
  clear hR hb
  go_enter Try.func70, Try.ntmps70
  go_wp2_with fail
  refine (rSpan_calls A n c b w HR.out hn).mono ?_
  rintro e w' ⟨s, f, rfl, Hs, rfl⟩
  by_cases hf : f = 0
  · subst hf
    have hs10 : 1 ≤ s ∧ s ≤ 10 ∧ s ≤ n := by
      rcases Hs.out with ⟨_, h1, h2, h3, _⟩ | ⟨_, h, _⟩ | ⟨_, h, _⟩
      · rw [Hl.out] at h3; exact ⟨h1, h2, h3⟩
      · omega
      · omega
    obtain ⟨hs1, hs2, hs3⟩ := hs10
    obtain ⟨b0, o0, e0, hcell⟩ := HR.out.2 (by omega)
    subst e0
    have Hcell := Lib.hid hcell
    clear hcell
    go_wp2_with fail
    go_loopw [7, 8] (fun v i wr => ∃ j : Nat, j ≤ s ∧ i = .int .i64 ((j : Int) - 1) ∧ v = .int .u64 ((valB ((b.take s).drop j) % 18446744073709551616 : Nat) : Int) ∧ wr = w') (fun _ i _ => (intOf i + 1).toNat)
    case atStart => exact ⟨s, by omega, rfl, by rw [List.drop_of_length_le (by rw [List.length_take]; omega)]; rfl, rfl⟩
    case round =>
      obtain ⟨j, hj, rfl, rfl, hw⟩ := hrel
      obtain ⟨W, hW⟩ : ∃ W, W = wr := ⟨_, rfl⟩
      rw [← hW] at hw ⊢
      subst hw
      clear hW
      obtain ⟨q, hq⟩ : ∃ q, q = valB ((b.take s).drop j) % 18446744073709551616 := ⟨_, rfl⟩
      rw [← hq]
      have hq64 : q < 18446744073709551616 := by rw [hq]; exact Nat.mod_lt _ (by decide)
      have Hq := Lib.hid hq
      clear hq
      by_cases hlt : 1 ≤ j
      · obtain ⟨k, hk⟩ : ∃ k, k = j - 1 := ⟨_, rfl⟩
        have hjk : (j : Int) - 1 = (k : Int) := by omega
        rw [hjk]
        have c0 := Hcell.out k (by omega)
        obtain ⟨x, hx⟩ : ∃ x, x = rd b k := ⟨_, rfl⟩
        rw [← hx] at c0
        have hx255 : 0 ≤ x ∧ x ≤ 255 := by rw [hx, rd_getElem (by rw [Hl.out]; omega)]; exact Hb.out _ (List.getElem_mem _)
        obtain ⟨hx0, hx1⟩ := hx255
        have hv : valB ((b.take s).drop k) = (x % 128).toNat + 128 * valB ((b.take s).drop j) := by
          rw [valB_drop (by rw [List.length_take, Hl.out]; omega), take_rdl (by omega), ← hx, show k + 1 = j by omega]
        have HV := Lib.hid hv
        have Hk := Lib.hid hk
        have hkn : k < n := by omega
        clear hx hv hk hjk
        go_wp2_with fail
        go_roundw
        case rel =>
          refine ⟨k, by have := Hk.out; omega, by go_num, ?_, trivial⟩
          rw [HV.out]
          have hq := Hq.out
          congr 1
          first | omega | (rw [IntKind.wrap_u64]; omega) | (rw [IntKind.wrap_u64, IntKind.wrap_u64]; omega)
        case measure => (have := Hk.out; first | (simp [intOf]; omega) | (simp [intOf]))
      · obtain rfl : j = 0 := by omega
        have hq := Hq.out
        rw [List.drop_zero] at hq
        have Hq0 := Lib.hid hq
        have h10 := lebU_10 (n := q) hq64
        obtain ⟨lq, hlq⟩ : ∃ l, l = (lebU q).length := ⟨_, rfl⟩
        have Hlq := Lib.hid hlq
        obtain ⟨sa, hsa⟩ : ∃ l, l = strOfNums (lebU q) := ⟨_, rfl⟩
        have Hsa := Lib.hid hsa
        obtain ⟨sb, hsb⟩ : ∃ l, l = strOfNums (b.take s) := ⟨_, rfl⟩
        have Hsb := Lib.hid hsb
        have hiff : sa = sb ↔ lebU q = b.take s := by rw [hsa, hsb]; exact strOf_inj (lebU_byte q) (fun x hx => Hb.out x (List.mem_of_mem_take hx))
        have htk : Rd W .u8 (some ⟨b0, o0, none⟩) s (b.take s) := ⟨by rw [List.length_take, Hl.out]; omega, fun _ => ⟨b0, o0, rfl, fun j hj => by rw [take_rdl hj]; exact Hcell.out j (by omega)⟩⟩
        have Htk := Lib.hid htk
        have L0 : Later W W.drew := (Later.refl W).drew
        have hsc : s ≤ c := by omega
        by_cases he : lebU q = b.take s
        · have hne : (sa.toList == sb.toList) = true := by rw [tl_beq]; exact decide_eq_true (hiff.2 he)
          have hne2 : (sa.toList != sb.toList) = false := by rw [bne, hne]; rfl
          have Hg : Hid (IsGet b q s 0) := Lib.hid ⟨s, 0, Hs.out, .inr (.inl ⟨rfl, hq64, he, rfl, rfl⟩)⟩
          clear hq hlq hsa hsb hiff htk he h10
          go_upto_region 9 with fail
          refine wp_region_noPanic ?_
          refine wp_region_held_drew (S := fun W' => Later W W') (by kernel_rfl) (L0) (fun hHeld => ?_)
          refine' wpAnyH_take (i := 0) (oi := ⟨_, _, _, _, _, _⟩) (v := _) rfl (by kernel_rfl) (by kernel_rfl) (by kernel_rfl) (fun _ _ _ h => h) (Or.inl ⟨by rfl, ?hya0⟩) (by assumption) ?resta0
          case hya0 => (intro w hSw; (try dsimp only at hSw); go_simp; try with_reducible rfl)
          try simp only [Act.put, List.setIfInBounds_toArray, List.set_cons_zero, List.set_cons_succ]
          refine' wpAnyH_take (i := 3) (oi := ⟨_, _, _, _, _, _⟩) (v := _) rfl (by kernel_rfl) (by kernel_rfl) (by kernel_rfl) (fun _ _ _ h => h) (Or.inl ⟨by rfl, ?hya3⟩) (by assumption) ?resta3
          case hya3 => (intro w hSw; (try dsimp only at hSw); go_simp; try with_reducible rfl)
          try simp only [Act.put, List.setIfInBounds_toArray, List.set_cons_zero, List.set_cons_succ]
          refine' wpAnyH_take (i := 4) (oi := ⟨_, _, _, _, _, _⟩) (v := _) rfl (by kernel_rfl) (by kernel_rfl) (by kernel_rfl) (fun _ _ _ h => h) (Or.inl ⟨by rfl, ?hya4⟩) (by assumption) ?resta4
          case hya4 => (intro w hSw; (try dsimp only at hSw); go_simp; try with_reducible rfl)
          try simp only [Act.put, List.setIfInBounds_toArray, List.set_cons_zero, List.set_cons_succ]
          refine' wpAnyH_take (i := 5) (oi := ⟨_, _, _, _, _, _⟩) (v := _) rfl (by kernel_rfl) (by kernel_rfl) (by kernel_rfl) (fun _ _ _ h => h) (Or.inl ⟨by rfl, ?hya5⟩) (by assumption) ?resta5
          case hya5 => (intro w hSw; (try dsimp only at hSw); go_simp; try with_reducible rfl)
          try simp only [Act.put, List.setIfInBounds_toArray, List.set_cons_zero, List.set_cons_succ]
          refine wpAnyH_ready (rs := [1, 6]) (by kernel_rfl) (by simp) ?_
          refine AllReadyH.cons (o := ⟨_, _, _, _, _, _⟩) rfl (fun K hK => ?_) (AllReadyH.cons (o := ⟨_, _, _, _, _, _⟩) rfl (fun K hK => ?_) AllReadyH.nil)
          · go_simp
            go_at_call 91
            refine (rU_calls (q + 1) q _ (by omega) hq64).mono ?_
            rintro e wA ⟨vA, rfl, hoA, hbA⟩
            have LA : Later W wA := Later.step L0 hbA
            rw [← Hlq.out] at hoA
            obtain ⟨aA, cA, rfl, _, hrA⟩ := own_rd hoA
            have HrA := Lib.hid hrA
            clear hrA hoA hbA
            refine hK.out _ _ (LA) (fun hHeldN => ?_)
            clear hK K hHeld
            have hHeld := hHeldN
            clear hHeldN
            try simp only [Act.put, List.setIfInBounds_toArray, List.set_cons_zero, List.set_cons_succ]
            refine wpAnyH_ready (rs := [2, 6]) (by kernel_rfl) (by simp) ?_
            refine AllReadyH.cons (o := ⟨_, _, _, _, _, _⟩) rfl (fun K hK => ?_) (AllReadyH.cons (o := ⟨_, _, _, _, _, _⟩) rfl (fun K hK => ?_) AllReadyH.nil)
            · have cv := conv_all (c := cA) HrA.out
              rw [← Hsa.out] at cv
              go_simp
              clear cv
              refine hK.out _ _ (LA) (fun hHeldN => ?_)
              clear hK K hHeld
              have hHeld := hHeldN
              clear hHeldN
              try simp only [Act.put, List.setIfInBounds_toArray, List.set_cons_zero, List.set_cons_succ]
              refine wpAnyH_ready (rs := [6]) (by kernel_rfl) (by simp) ?_
              refine AllReadyH.cons (o := ⟨_, _, _, _, _, _⟩) rfl (fun K hK => ?_) AllReadyH.nil
              have cv := conv_all (c := c) (Htk.out.below (Later.bel LA))
              rw [← Hsb.out] at cv
              go_simp
              clear cv
              refine hK.out _ _ (LA) (fun hHeldN => ?_)
              clear hK K hHeld
              have hHeld := hHeldN
              clear hHeldN
              try simp only [Act.put, List.setIfInBounds_toArray, List.set_cons_zero, List.set_cons_succ]
              refine' wpAnyH_take (i := 7) (oi := ⟨_, _, _, _, _, _⟩) (v := _) rfl (by kernel_rfl) (by kernel_rfl) (by kernel_rfl) (fun _ _ _ h => h) (Or.inl ⟨by rfl, ?hyz1_7⟩) (by assumption) ?restz1_7
              case hyz1_7 => (intro w hSw; (try dsimp only at hSw); go_simp; try with_reducible rfl)
              try simp only [Act.put, List.setIfInBounds_toArray, List.set_cons_zero, List.set_cons_succ]
              refine wpAnyH_done (by kernel_rfl) ?_ _
              refine NoPanic.normal ?_
              have HBz := Lib.hid (Later.bel LA)
              go_wp2_with fail
              refine bodyPost_ret (v := .tuple #[.int .u64 q, .int .i64 s, .int .i64 0]) (by simp [results, Try.results70, go_sem]) rfl ?_
              exact ⟨q, s, 0, rfl, Hg.out, HBz.out⟩
            · have cv := conv_all (c := c) (Htk.out.below (Later.bel LA))
              rw [← Hsb.out] at cv
              go_simp
              clear cv
              refine hK.out _ _ (LA) (fun hHeldN => ?_)
              clear hK K hHeld
              have hHeld := hHeldN
              clear hHeldN
              try simp only [Act.put, List.setIfInBounds_toArray, List.set_cons_zero, List.set_cons_succ]
              refine wpAnyH_ready (rs := [2]) (by kernel_rfl) (by simp) ?_
              refine AllReadyH.cons (o := ⟨_, _, _, _, _, _⟩) rfl (fun K hK => ?_) AllReadyH.nil
              have cv := conv_all (c := cA) HrA.out
              rw [← Hsa.out] at cv
              go_simp
              clear cv
              refine hK.out _ _ (LA) (fun hHeldN => ?_)
              clear hK K hHeld
              have hHeld := hHeldN
              clear hHeldN
              try simp only [Act.put, List.setIfInBounds_toArray, List.set_cons_zero, List.set_cons_succ]
              refine' wpAnyH_take (i := 7) (oi := ⟨_, _, _, _, _, _⟩) (v := _) rfl (by kernel_rfl) (by kernel_rfl) (by kernel_rfl) (fun _ _ _ h => h) (Or.inl ⟨by rfl, ?hyz2_7⟩) (by assumption) ?restz2_7
              case hyz2_7 => (intro w hSw; (try dsimp only at hSw); go_simp; try with_reducible rfl)
              try simp only [Act.put, List.setIfInBounds_toArray, List.set_cons_zero, List.set_cons_succ]
              refine wpAnyH_done (by kernel_rfl) ?_ _
              refine NoPanic.normal ?_
              have HBz := Lib.hid (Later.bel LA)
              go_wp2_with fail
              refine bodyPost_ret (v := .tuple #[.int .u64 q, .int .i64 s, .int .i64 0]) (by simp [results, Try.results70, go_sem]) rfl ?_
              exact ⟨q, s, 0, rfl, Hg.out, HBz.out⟩
          · have cv := conv_all (c := c) (Htk.out.below (Later.bel L0))
            rw [← Hsb.out] at cv
            go_simp
            clear cv
            refine hK.out _ _ (L0) (fun hHeldN => ?_)
            clear hK K hHeld
            have hHeld := hHeldN
            clear hHeldN
            try simp only [Act.put, List.setIfInBounds_toArray, List.set_cons_zero, List.set_cons_succ]
            refine wpAnyH_ready (rs := [1]) (by kernel_rfl) (by simp) ?_
            refine AllReadyH.cons (o := ⟨_, _, _, _, _, _⟩) rfl (fun K hK => ?_) AllReadyH.nil
            go_simp
            go_at_call 91
            refine (rU_calls (q + 1) q _ (by omega) hq64).mono ?_
            rintro e wA ⟨vA, rfl, hoA, hbA⟩
            have LA : Later W wA := Later.step L0 hbA
            rw [← Hlq.out] at hoA
            obtain ⟨aA, cA, rfl, _, hrA⟩ := own_rd hoA
            have HrA := Lib.hid hrA
            clear hrA hoA hbA
            refine hK.out _ _ (LA) (fun hHeldN => ?_)
            clear hK K hHeld
            have hHeld := hHeldN
            clear hHeldN
            try simp only [Act.put, List.setIfInBounds_toArray, List.set_cons_zero, List.set_cons_succ]
            refine wpAnyH_ready (rs := [2]) (by kernel_rfl) (by simp) ?_
            refine AllReadyH.cons (o := ⟨_, _, _, _, _, _⟩) rfl (fun K hK => ?_) AllReadyH.nil
            have cv := conv_all (c := cA) HrA.out
            rw [← Hsa.out] at cv
            go_simp
            clear cv
            refine hK.out _ _ (LA) (fun hHeldN => ?_)
            clear hK K hHeld
            have hHeld := hHeldN
            clear hHeldN
            try simp only [Act.put, List.setIfInBounds_toArray, List.set_cons_zero, List.set_cons_succ]
            refine' wpAnyH_take (i := 7) (oi := ⟨_, _, _, _, _, _⟩) (v := _) rfl (by kernel_rfl) (by kernel_rfl) (by kernel_rfl) (fun _ _ _ h => h) (Or.inl ⟨by rfl, ?hyz3_7⟩) (by assumption) ?restz3_7
            case hyz3_7 => (intro w hSw; (try dsimp only at hSw); go_simp; try with_reducible rfl)
            try simp only [Act.put, List.setIfInBounds_toArray, List.set_cons_zero, List.set_cons_succ]
            refine wpAnyH_done (by kernel_rfl) ?_ _
            refine NoPanic.normal ?_
            have HBz := Lib.hid (Later.bel LA)
            go_wp2_with fail
            refine bodyPost_ret (v := .tuple #[.int .u64 q, .int .i64 s, .int .i64 0]) (by simp [results, Try.results70, go_sem]) rfl ?_
            exact ⟨q, s, 0, rfl, Hg.out, HBz.out⟩
        · have hne : (sa.toList == sb.toList) = false := by rw [tl_beq]; exact decide_eq_false (fun e => he (hiff.1 e))
          have hne2 : (sa.toList != sb.toList) = true := by rw [bne, hne]; rfl
          have Hg : Hid (IsGet b 0 0 3) := Lib.hid ⟨s, 0, Hs.out, .inr (.inr ⟨rfl, fun m hm e => he (by
            have hv := valB_leb m
            rw [e] at hv
            have : q = m := by rw [Hq0.out, hv]; exact Nat.mod_eq_of_lt hm
            rw [this, e]), rfl, rfl, rfl⟩)⟩
          clear hq hlq hsa hsb hiff htk he h10
          go_upto_region 9 with fail
          refine wp_region_noPanic ?_
          refine wp_region_held_drew (S := fun W' => Later W W') (by kernel_rfl) (L0) (fun hHeld => ?_)
          refine' wpAnyH_take (i := 0) (oi := ⟨_, _, _, _, _, _⟩) (v := _) rfl (by kernel_rfl) (by kernel_rfl) (by kernel_rfl) (fun _ _ _ h => h) (Or.inl ⟨by rfl, ?hyb0⟩) (by assumption) ?restb0
          case hyb0 => (intro w hSw; (try dsimp only at hSw); go_simp; try with_reducible rfl)
          try simp only [Act.put, List.setIfInBounds_toArray, List.set_cons_zero, List.set_cons_succ]
          refine' wpAnyH_take (i := 3) (oi := ⟨_, _, _, _, _, _⟩) (v := _) rfl (by kernel_rfl) (by kernel_rfl) (by kernel_rfl) (fun _ _ _ h => h) (Or.inl ⟨by rfl, ?hyb3⟩) (by assumption) ?restb3
          case hyb3 => (intro w hSw; (try dsimp only at hSw); go_simp; try with_reducible rfl)
          try simp only [Act.put, List.setIfInBounds_toArray, List.set_cons_zero, List.set_cons_succ]
          refine' wpAnyH_take (i := 4) (oi := ⟨_, _, _, _, _, _⟩) (v := _) rfl (by kernel_rfl) (by kernel_rfl) (by kernel_rfl) (fun _ _ _ h => h) (Or.inl ⟨by rfl, ?hyb4⟩) (by assumption) ?restb4
          case hyb4 => (intro w hSw; (try dsimp only at hSw); go_simp; try with_reducible rfl)
          try simp only [Act.put, List.setIfInBounds_toArray, List.set_cons_zero, List.set_cons_succ]
          refine' wpAnyH_take (i := 5) (oi := ⟨_, _, _, _, _, _⟩) (v := _) rfl (by kernel_rfl) (by kernel_rfl) (by kernel_rfl) (fun _ _ _ h => h) (Or.inl ⟨by rfl, ?hyb5⟩) (by assumption) ?restb5
          case hyb5 => (intro w hSw; (try dsimp only at hSw); go_simp; try with_reducible rfl)
          try simp only [Act.put, List.setIfInBounds_toArray, List.set_cons_zero, List.set_cons_succ]
          refine wpAnyH_ready (rs := [1, 6]) (by kernel_rfl) (by simp) ?_
          refine AllReadyH.cons (o := ⟨_, _, _, _, _, _⟩) rfl (fun K hK => ?_) (AllReadyH.cons (o := ⟨_, _, _, _, _, _⟩) rfl (fun K hK => ?_) AllReadyH.nil)
          · go_simp
            go_at_call 91
            refine (rU_calls (q + 1) q _ (by omega) hq64).mono ?_
            rintro e wA ⟨vA, rfl, hoA, hbA⟩
            have LA : Later W wA := Later.step L0 hbA
            rw [← Hlq.out] at hoA
            obtain ⟨aA, cA, rfl, _, hrA⟩ := own_rd hoA
            have HrA := Lib.hid hrA
            clear hrA hoA hbA
            refine hK.out _ _ (LA) (fun hHeldN => ?_)
            clear hK K hHeld
            have hHeld := hHeldN
            clear hHeldN
            try simp only [Act.put, List.setIfInBounds_toArray, List.set_cons_zero, List.set_cons_succ]
            refine wpAnyH_ready (rs := [2, 6]) (by kernel_rfl) (by simp) ?_
            refine AllReadyH.cons (o := ⟨_, _, _, _, _, _⟩) rfl (fun K hK => ?_) (AllReadyH.cons (o := ⟨_, _, _, _, _, _⟩) rfl (fun K hK => ?_) AllReadyH.nil)
            · have cv := conv_all (c := cA) HrA.out
              rw [← Hsa.out] at cv
              go_simp
              clear cv
              refine hK.out _ _ (LA) (fun hHeldN => ?_)
              clear hK K hHeld
              have hHeld := hHeldN
              clear hHeldN
              try simp only [Act.put, List.setIfInBounds_toArray, List.set_cons_zero, List.set_cons_succ]
              refine wpAnyH_ready (rs := [6]) (by kernel_rfl) (by simp) ?_
              refine AllReadyH.cons (o := ⟨_, _, _, _, _, _⟩) rfl (fun K hK => ?_) AllReadyH.nil
              have cv := conv_all (c := c) (Htk.out.below (Later.bel LA))
              rw [← Hsb.out] at cv
              go_simp
              clear cv
              refine hK.out _ _ (LA) (fun hHeldN => ?_)
              clear hK K hHeld
              have hHeld := hHeldN
              clear hHeldN
              try simp only [Act.put, List.setIfInBounds_toArray, List.set_cons_zero, List.set_cons_succ]
              refine' wpAnyH_take (i := 7) (oi := ⟨_, _, _, _, _, _⟩) (v := _) rfl (by kernel_rfl) (by kernel_rfl) (by kernel_rfl) (fun _ _ _ h => h) (Or.inl ⟨by rfl, ?hyz51_7⟩) (by assumption) ?restz51_7
              case hyz51_7 => (intro w hSw; (try dsimp only at hSw); go_simp; try with_reducible rfl)
              try simp only [Act.put, List.setIfInBounds_toArray, List.set_cons_zero, List.set_cons_succ]
              refine wpAnyH_done (by kernel_rfl) ?_ _
              refine NoPanic.normal ?_
              have HBz := Lib.hid (Later.bel LA)
              go_wp2_with fail
              refine bodyPost_ret (v := .tuple #[.int .u64 0, .int .i64 0, .int .i64 3]) (by simp [results, Try.results70, go_sem]) rfl ?_
              exact ⟨0, 0, 3, rfl, Hg.out, HBz.out⟩
            · have cv := conv_all (c := c) (Htk.out.below (Later.bel LA))
              rw [← Hsb.out] at cv
              go_simp
              clear cv
              refine hK.out _ _ (LA) (fun hHeldN => ?_)
              clear hK K hHeld
              have hHeld := hHeldN
              clear hHeldN
              try simp only [Act.put, List.setIfInBounds_toArray, List.set_cons_zero, List.set_cons_succ]
              refine wpAnyH_ready (rs := [2]) (by kernel_rfl) (by simp) ?_
              refine AllReadyH.cons (o := ⟨_, _, _, _, _, _⟩) rfl (fun K hK => ?_) AllReadyH.nil
              have cv := conv_all (c := cA) HrA.out
              rw [← Hsa.out] at cv
              go_simp
              clear cv
              refine hK.out _ _ (LA) (fun hHeldN => ?_)
              clear hK K hHeld
              have hHeld := hHeldN
              clear hHeldN
              try simp only [Act.put, List.setIfInBounds_toArray, List.set_cons_zero, List.set_cons_succ]
              refine' wpAnyH_take (i := 7) (oi := ⟨_, _, _, _, _, _⟩) (v := _) rfl (by kernel_rfl) (by kernel_rfl) (by kernel_rfl) (fun _ _ _ h => h) (Or.inl ⟨by rfl, ?hyz52_7⟩) (by assumption) ?restz52_7
              case hyz52_7 => (intro w hSw; (try dsimp only at hSw); go_simp; try with_reducible rfl)
              try simp only [Act.put, List.setIfInBounds_toArray, List.set_cons_zero, List.set_cons_succ]
              refine wpAnyH_done (by kernel_rfl) ?_ _
              refine NoPanic.normal ?_
              have HBz := Lib.hid (Later.bel LA)
              go_wp2_with fail
              refine bodyPost_ret (v := .tuple #[.int .u64 0, .int .i64 0, .int .i64 3]) (by simp [results, Try.results70, go_sem]) rfl ?_
              exact ⟨0, 0, 3, rfl, Hg.out, HBz.out⟩
          · have cv := conv_all (c := c) (Htk.out.below (Later.bel L0))
            rw [← Hsb.out] at cv
            go_simp
            clear cv
            refine hK.out _ _ (L0) (fun hHeldN => ?_)
            clear hK K hHeld
            have hHeld := hHeldN
            clear hHeldN
            try simp only [Act.put, List.setIfInBounds_toArray, List.set_cons_zero, List.set_cons_succ]
            refine wpAnyH_ready (rs := [1]) (by kernel_rfl) (by simp) ?_
            refine AllReadyH.cons (o := ⟨_, _, _, _, _, _⟩) rfl (fun K hK => ?_) AllReadyH.nil
            go_simp
            go_at_call 91
            refine (rU_calls (q + 1) q _ (by omega) hq64).mono ?_
            rintro e wA ⟨vA, rfl, hoA, hbA⟩
            have LA : Later W wA := Later.step L0 hbA
            rw [← Hlq.out] at hoA
            obtain ⟨aA, cA, rfl, _, hrA⟩ := own_rd hoA
            have HrA := Lib.hid hrA
            clear hrA hoA hbA
            refine hK.out _ _ (LA) (fun hHeldN => ?_)
            clear hK K hHeld
            have hHeld := hHeldN
            clear hHeldN
            try simp only [Act.put, List.setIfInBounds_toArray, List.set_cons_zero, List.set_cons_succ]
            refine wpAnyH_ready (rs := [2]) (by kernel_rfl) (by simp) ?_
            refine AllReadyH.cons (o := ⟨_, _, _, _, _, _⟩) rfl (fun K hK => ?_) AllReadyH.nil
            have cv := conv_all (c := cA) HrA.out
            rw [← Hsa.out] at cv
            go_simp
            clear cv
            refine hK.out _ _ (LA) (fun hHeldN => ?_)
            clear hK K hHeld
            have hHeld := hHeldN
            clear hHeldN
            try simp only [Act.put, List.setIfInBounds_toArray, List.set_cons_zero, List.set_cons_succ]
            refine' wpAnyH_take (i := 7) (oi := ⟨_, _, _, _, _, _⟩) (v := _) rfl (by kernel_rfl) (by kernel_rfl) (by kernel_rfl) (fun _ _ _ h => h) (Or.inl ⟨by rfl, ?hyz53_7⟩) (by assumption) ?restz53_7
            case hyz53_7 => (intro w hSw; (try dsimp only at hSw); go_simp; try with_reducible rfl)
            try simp only [Act.put, List.setIfInBounds_toArray, List.set_cons_zero, List.set_cons_succ]
            refine wpAnyH_done (by kernel_rfl) ?_ _
            refine NoPanic.normal ?_
            have HBz := Lib.hid (Later.bel LA)
            go_wp2_with fail
            refine bodyPost_ret (v := .tuple #[.int .u64 0, .int .i64 0, .int .i64 3]) (by simp [results, Try.results70, go_sem]) rfl ?_
            exact ⟨0, 0, 3, rfl, Hg.out, HBz.out⟩
  · have hfb : (f == 0) = false := by simpa using hf
    go_wp2_with fail
    refine bodyPost_ret (v := .tuple #[.int .u64 0, .int .i64 0, .int .i64 f]) (by simp [results, Try.results70, go_sem]) rfl ?_
    exact ⟨0, 0, f, rfl, get_err Hs.out hf, Below.refl _ _⟩
end Go.Proofs.Ytdbkbeojedndbaa
/-
  A table that is put is read as it was; what is read of a table has just its bytes (no program).
-/
namespace Go.Proofs.Ytdbkbeojedndbaa
open Go.RowKit

theorem str_mem {T : List ByteArray} {j : Nat} (h : j < T.length) : str T j ∈ T := by
  unfold str
  rw [List.getD_eq_getElem?_getD, List.getElem?_eq_getElem h]
  exact List.getElem_mem h
theorem str_last (l : List ByteArray) (s : ByteArray) : str (l ++ [s]) ((l ++ [s]).length - 1) = s := by
  unfold str
  rw [List.getD_eq_getElem?_getD, List.length_append, List.length_singleton, Nat.add_sub_cancel, List.getElem?_append_right (Nat.le_refl _), Nat.sub_self]
  rfl
theorem chain_more {au : ByteArray} : ∀ (l t : List ByteArray), (t ++ l).Pairwise ltB → (∀ s ∈ l, s ≠ au ∧ 1 ≤ s.size ∧ s.size ≤ 16) → Chain au (au :: t) l := by
  intro l
  induction l with
  | nil => intro t _ _; trivial
  | cons s l ih =>
    intro t hp hs
    obtain ⟨h1, h2, h3⟩ := hs s List.mem_cons_self
    refine ⟨⟨h2, h3, ?_⟩, ?_⟩
    · rintro (h | ⟨h4, h5⟩)
      · exact h1 h
      · refine h5 ?_
        rcases List.eq_nil_or_concat t with rfl | ⟨t', x, rfl⟩
        · simp at h4
        · rw [List.concat_eq_append, ← List.cons_append, str_last]
          rw [List.concat_eq_append, List.append_assoc, List.pairwise_append] at hp
          exact (List.pairwise_cons.1 hp.2.1).1 s (by simp)
    · rw [List.cons_append]
      exact ih (t ++ [s]) (by rw [List.append_assoc]; exact hp) (fun x hx => hs x (List.mem_cons_of_mem _ hx))
theorem tab_put {au : ByteArray} {t : List ByteArray} (hc : Chain au [au] t) (hl : t.length < 18446744073709551616) (R : List Int) : IsTab au (putT (au :: t) ++ R) (au :: t) (putT (au :: t)).length 0 := by
  have e : putT (au :: t) = lebU t.length ++ t.flatMap txtB := rfl
  refine ⟨t.length, (lebU t.length).length, 0, ?_, .inr ⟨rfl, ?_⟩⟩
  · rw [e, List.append_assoc]; exact get_leb hl _
  · have := reads_put au R t [au] (lebU t.length) hc
    rw [e, List.append_assoc, List.length_append]
    exact this
theorem tab_cut {au : ByteArray} {t : List ByteArray} (hc : Chain au [au] t) (hl : t.length < 18446744073709551616) {k : Nat} (hk : k < (putT (au :: t)).length) : IsTab au ((putT (au :: t)).take k) [] 0 2 := by
  have e : putT (au :: t) = lebU t.length ++ t.flatMap txtB := rfl
  rw [e, List.length_append] at hk
  by_cases h : k < (lebU t.length).length
  · refine ⟨0, 0, 2, ?_, .inl ⟨by decide, rfl, rfl, rfl⟩⟩
    rw [e, List.take_append_of_le_length (by omega)]
    exact get_front hl h
  · refine ⟨t.length, (lebU t.length).length, 0, ?_, .inr ⟨rfl, ?_⟩⟩
    · obtain ⟨j, rfl⟩ : ∃ j, k = (lebU t.length).length + j := ⟨k - (lebU t.length).length, by omega⟩
      rw [e, List.take_length_add_append]
      exact get_leb hl _
    · exact reads_front au t [au] (lebU t.length) k hc (by omega) hk
theorem putT_len {au : ByteArray} {t : List ByteArray} (h : ∀ s ∈ t, s.size ≤ 16) (hl : t.length ≤ 3360) : 1 ≤ (putT (au :: t)).length ∧ (putT (au :: t)).length ≤ 87370 := by
  have e : putT (au :: t) = lebU t.length ++ t.flatMap txtB := rfl
  have h1 : ∀ l : List ByteArray, (∀ s ∈ l, s.size ≤ 16) → (l.flatMap txtB).length ≤ l.length * 26 := by
    intro l
    induction l with
    | nil => intro _; simp
    | cons s l ih =>
      intro hs
      have h1 := ih (fun x hx => hs x (List.mem_cons_of_mem _ hx))
      have h2 := hs s List.mem_cons_self
      have h3 := lebU_10 (n := s.size) (by omega)
      rw [List.flatMap_cons, List.length_append, List.length_cons, txtB, List.length_append, nums_length]
      omega
  have h2 := h1 t h
  have h3 := lebU_10 (n := t.length) (by omega)
  rw [e, List.length_append]
  omega
theorem take_nums {b : List Int} (hb : ∀ x ∈ b, 0 ≤ x ∧ x ≤ 255) (p v : Nat) : nums (textAt b p v) = (b.drop p).take v := nums_strOf (fun x hx => hb x (List.mem_of_mem_drop (List.mem_of_mem_take hx)))
theorem textAt_size {b : List Int} {p v : Nat} (h : p + v ≤ b.length) : (textAt b p v).size = v := by
  show ((((b.drop p).take v).map fun n : Int => UInt8.ofNat n.toNat).toArray).size = v
  rw [List.size_toArray, List.length_map, List.length_take, List.length_drop]
  omega
theorem drop_take_app (b : List Int) (p k : Nat) (_h : p + k ≤ b.length) (q : Nat) (hq : p + k ≤ q) : (b.drop p).take (q - p) = (b.drop p).take k ++ (b.drop (p + k)).take (q - (p + k)) := by
  have e : q - p = k + (q - (p + k)) := by omega
  rw [e, List.take_add, List.drop_drop]
/-- What is read has just these bytes. -/
theorem reads_just {au : ByteArray} {b : List Int} (hb : ∀ x ∈ b, 0 ≤ x ∧ x ≤ 255) {m p : Nat} {out T : List ByteArray} {q : Nat} {e : Int} (h : Reads au b m p out T q e) : e = 0 → p ≤ b.length →
    ∃ l, T = out ++ l ∧ l.length = m ∧ Chain au out l ∧ p ≤ q ∧ q ≤ b.length ∧ (b.drop p).take (q - p) = l.flatMap txtB := by
  induction h with
  | done p out => intro _ hp; exact ⟨[], (List.append_nil _).symm, rfl, trivial, Nat.le_refl _, hp, by rw [Nat.sub_self, List.take_zero]; rfl⟩
  | num h1 h2 => intro e; exact absurd e h2
  | long h1 h2 => intro e; cases e
  | short h1 h2 h3 h4 => intro e; cases e
  | form h1 h2 h3 h4 h5 => intro e; cases e
  | @next m p v k out T q e h1 h2 h3 h4 h5 _ ih =>
    intro he hp
    obtain ⟨l, rfl, hl, hc, hq1, hq2, hq3⟩ := ih he h4
    have hk := isGet_rng h1
    have hsz := textAt_size (b := b) (p := p + k) (v := v) h4
    refine ⟨textAt b (p + k) v :: l, by simp, by simp [hl], ⟨⟨by omega, by omega, h5⟩, hc⟩, by omega, hq2, ?_⟩
    obtain ⟨s, f, hs0, hs1⟩ := h1
    have hleb : lebU v = (b.drop p).take k := by
      rcases hs1 with ⟨g1, _, _, g2⟩ | ⟨_, _, g1, rfl, _⟩ | ⟨_, _, _, _, g1⟩
      · exact absurd g2.symm g1
      · exact g1
      · omega
    rw [drop_take_app b p k (by omega) q (by omega), drop_take_app b (p + k) v (by omega) q (by omega), ← hleb, hq3, List.flatMap_cons, txtB, take_nums hb, hsz, List.append_assoc]
theorem tab_just {au : ByteArray} {b : List Int} (hb : ∀ x ∈ b, 0 ≤ x ∧ x ≤ 255) {T : List ByteArray} {q : Nat} (h : IsTab au b T q 0) : ∃ t, T = au :: t ∧ Chain au [au] t ∧ t.length < 18446744073709551616 ∧ q ≤ b.length ∧ b.take q = putT T := by
  obtain ⟨n, k, f, h1, h2⟩ := h
  rcases h2 with ⟨h3, _, _, h4⟩ | ⟨rfl, h3⟩
  · exact absurd h4.symm h3
  · have hk := isGet_rng h1
    obtain ⟨l, rfl, hl, hc, hq1, hq2, hq3⟩ := reads_just hb h3 rfl (by omega)
    refine ⟨l, rfl, hc, by omega, hq2, ?_⟩
    obtain ⟨s, f, hs0, hs1⟩ := h1
    have hleb : lebU n = b.take k := by
      rcases hs1 with ⟨g1, _, _, g2⟩ | ⟨_, _, g1, rfl, _⟩ | ⟨_, _, _, _, g1⟩
      · exact absurd g2.symm g1
      · exact g1
      · omega
    have e := drop_take_app b 0 k (by omega) q (by omega)
    simp only [List.drop_zero, Nat.sub_zero, Nat.zero_add] at e
    rw [e, ← hleb, hq3]
    show _ = lebU ((au :: l).length - 1) ++ ((au :: l).drop 1).flatMap txtB
    simp [hl]
end Go.Proofs.Ytdbkbeojedndbaa
/-
  Characters of UTF-8, told by their bytes (no program).
-/
namespace Go.Proofs.Ytdbkbeojedndbaa
open Go.RowKit

def uSize (x : Int) : Nat := if x < 128 then 1 else if 194 ≤ x ∧ x < 224 then 2 else if 224 ≤ x ∧ x < 240 then 3 else if 240 ≤ x ∧ x < 245 then 4 else 0
def uLow (x : Int) : Int := if x = 224 then 160 else if x = 240 then 144 else 128
def uHigh (x : Int) : Int := if x = 237 then 159 else if x = 244 then 143 else 191
/-- May the byte at a place behind the first one stand there? -/
def uFits (l : List Int) (i : Nat) : Prop := (if i = 1 then uLow (rd l 0) else 128) ≤ rd l i ∧ rd l i ≤ (if i = 1 then uHigh (rd l 0) else 191)
instance (l : List Int) (i : Nat) : Decidable (uFits l i) := by unfold uFits; exact inferInstance
/-- A character of k bytes stands at the beginning. -/
def uIs (l : List Int) (k : Nat) : Prop := uSize (rd l 0) = k ∧ ∀ i, i < k → 1 ≤ i → uFits l i
instance (l : List Int) (k : Nat) : Decidable (uIs l k) := by unfold uIs; exact inferInstance
/-- How many bytes the first character has; 0: there is none. -/
def uNext (l : List Int) : Nat := if 0 < l.length ∧ uSize (rd l 0) ≤ l.length ∧ uIs l (uSize (rd l 0)) then uSize (rd l 0) else 0
theorem uSize_le (x : Int) : uSize x ≤ 4 := by
  unfold uSize
  repeat' split
  all_goals omega
theorem uNext_le (l : List Int) : uNext l ≤ l.length := by
  unfold uNext
  split <;> omega
theorem uNext_le4 (l : List Int) : uNext l ≤ 4 := by
  have := uSize_le (rd l 0)
  unfold uNext
  split <;> omega
theorem uNext_pos {l : List Int} (h : uNext l ≠ 0) : 0 < l.length := by
  unfold uNext at h
  split at h
  · next h1 => exact h1.1
  · exact absurd rfl h
/-- As far as there are characters. -/
def uWhere (l : List Int) : Nat := if uNext l = 0 then 0 else uNext l + uWhere (l.drop (uNext l))
termination_by l.length
decreasing_by
  rename_i h
  have := uNext_pos h
  rw [List.length_drop]
  omega
theorem uWhere_le : ∀ (n : Nat) (l : List Int), l.length ≤ n → uWhere l ≤ l.length := by
  intro n
  induction n with
  | zero =>
    intro l h
    rw [uWhere, if_pos (by have := uNext_le l; omega)]
    omega
  | succ n ih =>
    intro l h
    by_cases h0 : uNext l = 0
    · rw [uWhere, if_pos h0]; omega
    · have h1 := uNext_pos h0
      have h2 := uNext_le l
      have := ih (l.drop (uNext l)) (by rw [List.length_drop]; omega)
      rw [uWhere, if_neg h0]
      rw [List.length_drop] at this
      omega
/-- A text of characters alone. -/
def Utf (s : ByteArray) : Prop := uWhere (nums s) = s.size
instance (s : ByteArray) : Decidable (Utf s) := by unfold Utf; exact inferInstance
/-- The bytes of a number's character. -/
def rPut (n : Int) : List Int := if n < 0 ∨ 1114111 < n ∨ (55296 ≤ n ∧ n ≤ 57343) then [] else if n < 128 then [n] else if n < 2048 then [192 + n / 64, 128 + n % 64] else if n < 65536 then [224 + n / 4096, 128 + n / 64 % 64, 128 + n % 64] else [240 + n / 262144, 128 + n / 4096 % 64, 128 + n / 64 % 64, 128 + n % 64]
def rFirst (k : Nat) (x : Int) : Int := if k = 2 then x - 192 else if k = 3 then x - 224 else if k = 4 then x - 240 else x
/-- The number that bytes would tell. -/
def rNum (l : List Int) (k : Nat) : Nat → Int
  | 0 => rFirst k (rd l 0)
  | i + 1 => rNum l k i * 64 + rd l (i + 1) - 128
theorem rd_cons0 (x : Int) (l : List Int) : rd (x :: l) 0 = x := rfl
theorem rd_consS (x : Int) (l : List Int) (i : Nat) : rd (x :: l) (i + 1) = rd l i := rfl
theorem uSize_1 {x : Int} : uSize x = 1 ↔ x < 128 := by
  unfold uSize
  repeat' split
  all_goals omega
theorem uSize_2 {x : Int} : uSize x = 2 ↔ 194 ≤ x ∧ x < 224 := by
  unfold uSize
  repeat' split
  all_goals omega
theorem uSize_3 {x : Int} : uSize x = 3 ↔ 224 ≤ x ∧ x < 240 := by
  unfold uSize
  repeat' split
  all_goals omega
theorem uSize_4 {x : Int} : uSize x = 4 ↔ 240 ≤ x ∧ x < 245 := by
  unfold uSize
  repeat' split
  all_goals omega
theorem put_1 {x : Int} (h : 0 ≤ x ∧ x ≤ 255) : rPut x = [x] ↔ x < 128 := by
  unfold rPut
  split
  · constructor
    · intro h; exact absurd (congrArg List.length h) (by simp)
    · intro; omega
  · split
    · constructor
      · intro; assumption
      · intro; rfl
    · split
      · constructor
        · intro h; exact absurd (congrArg List.length h) (by simp)
        · intro; omega
      · omega
theorem put_2 {x y : Int} (h : 0 ≤ x ∧ x ≤ 255) (hy : 0 ≤ y ∧ y ≤ 255) : rPut ((x - 192) * 64 + y - 128) = [x, y] ↔ (194 ≤ x ∧ x < 224) ∧ 128 ≤ y ∧ y ≤ 191 := by
  unfold rPut
  split
  · constructor
    · intro h; exact absurd (congrArg List.length h) (by simp)
    · intro; omega
  · split
    · constructor
      · intro h; exact absurd (congrArg List.length h) (by simp)
      · intro; omega
    · split
      · rw [List.cons.injEq, List.cons.injEq]
        constructor
        · intro ⟨h1, h2, _⟩; omega
        · intro h; exact ⟨by omega, by omega, rfl⟩
      · split
        · constructor
          · intro h; exact absurd (congrArg List.length h) (by simp)
          · intro; omega
        · constructor
          · intro h; exact absurd (congrArg List.length h) (by simp)
          · intro; omega
theorem put_3 {x y z : Int} (h : 0 ≤ x ∧ x ≤ 255) (hy : 0 ≤ y ∧ y ≤ 255) (hz : 0 ≤ z ∧ z ≤ 255) : rPut (((x - 224) * 64 + y - 128) * 64 + z - 128) = [x, y, z] ↔ (224 ≤ x ∧ x < 240) ∧ (uLow x ≤ y ∧ y ≤ uHigh x) ∧ 128 ≤ z ∧ z ≤ 191 := by
  have e : (uLow x ≤ y ∧ y ≤ uHigh x) ↔ ((x = 224 ∧ 160 ≤ y ∧ y ≤ 191) ∨ (x = 240 ∧ 144 ≤ y ∧ y ≤ 191) ∨ (x = 237 ∧ 128 ≤ y ∧ y ≤ 159) ∨ (x = 244 ∧ 128 ≤ y ∧ y ≤ 143) ∨ (x ≠ 224 ∧ x ≠ 240 ∧ x ≠ 237 ∧ x ≠ 244 ∧ 128 ≤ y ∧ y ≤ 191)) := by
    unfold uLow uHigh
    repeat' split
    all_goals omega
  rw [e]
  unfold rPut
  split
  · constructor
    · intro h; exact absurd (congrArg List.length h) (by simp)
    · intro; omega
  · split
    · constructor
      · intro h; exact absurd (congrArg List.length h) (by simp)
      · intro; omega
    · split
      · constructor
        · intro h; exact absurd (congrArg List.length h) (by simp)
        · intro; omega
      · split
        · rw [List.cons.injEq, List.cons.injEq, List.cons.injEq]
          constructor
          · intro ⟨h1, h2, h3, _⟩; omega
          · intro h; exact ⟨by omega, by omega, by omega, rfl⟩
        · constructor
          · intro h; exact absurd (congrArg List.length h) (by simp)
          · intro; omega
theorem put_4 {x y z u : Int} (h : 0 ≤ x ∧ x ≤ 255) (hy : 0 ≤ y ∧ y ≤ 255) (hz : 0 ≤ z ∧ z ≤ 255) (hu : 0 ≤ u ∧ u ≤ 255) : rPut ((((x - 240) * 64 + y - 128) * 64 + z - 128) * 64 + u - 128) = [x, y, z, u] ↔ (240 ≤ x ∧ x < 245) ∧ (uLow x ≤ y ∧ y ≤ uHigh x) ∧ (128 ≤ z ∧ z ≤ 191) ∧ 128 ≤ u ∧ u ≤ 191 := by
  have e : (uLow x ≤ y ∧ y ≤ uHigh x) ↔ ((x = 224 ∧ 160 ≤ y ∧ y ≤ 191) ∨ (x = 240 ∧ 144 ≤ y ∧ y ≤ 191) ∨ (x = 237 ∧ 128 ≤ y ∧ y ≤ 159) ∨ (x = 244 ∧ 128 ≤ y ∧ y ≤ 143) ∨ (x ≠ 224 ∧ x ≠ 240 ∧ x ≠ 237 ∧ x ≠ 244 ∧ 128 ≤ y ∧ y ≤ 191)) := by
    unfold uLow uHigh
    repeat' split
    all_goals omega
  rw [e]
  unfold rPut
  split
  · constructor
    · intro h; exact absurd (congrArg List.length h) (by simp)
    · intro; omega
  · split
    · constructor
      · intro h; exact absurd (congrArg List.length h) (by simp)
      · intro; omega
    · split
      · constructor
        · intro h; exact absurd (congrArg List.length h) (by simp)
        · intro; omega
      · split
        · constructor
          · intro h; exact absurd (congrArg List.length h) (by simp)
          · intro; omega
        · rw [List.cons.injEq, List.cons.injEq, List.cons.injEq, List.cons.injEq]
          constructor
          · intro ⟨h1, h2, h3, h4, _⟩; omega
          · intro h; exact ⟨by omega, by omega, by omega, by omega, rfl⟩
theorem all_lt2 {P : Nat → Prop} : (∀ i, i < 2 → 1 ≤ i → P i) ↔ P 1 := ⟨fun h => h 1 (by omega) (by omega), fun h i hi h1 => by
  obtain rfl : i = 1 := by omega
  exact h⟩
theorem all_lt3 {P : Nat → Prop} : (∀ i, i < 3 → 1 ≤ i → P i) ↔ P 1 ∧ P 2 := ⟨fun h => ⟨h 1 (by omega) (by omega), h 2 (by omega) (by omega)⟩, fun h i hi h1 => by
  rcases (show i = 1 ∨ i = 2 by omega) with rfl | rfl
  · exact h.1
  · exact h.2⟩
theorem all_lt4 {P : Nat → Prop} : (∀ i, i < 4 → 1 ≤ i → P i) ↔ P 1 ∧ P 2 ∧ P 3 := ⟨fun h => ⟨h 1 (by omega) (by omega), h 2 (by omega) (by omega), h 3 (by omega) (by omega)⟩, fun h i hi h1 => by
  rcases (show i = 1 ∨ i = 2 ∨ i = 3 by omega) with rfl | rfl | rfl
  · exact h.1
  · exact h.2.1
  · exact h.2.2⟩
/-- The reference's test at k bytes is the program's. -/
theorem put_is {l : List Int} (hb : ∀ x ∈ l, 0 ≤ x ∧ x ≤ 255) {k : Nat} (h1 : 1 ≤ k) (h4 : k ≤ 4) (hk : k ≤ l.length) : rPut (rNum l k (k - 1)) = l.take k ↔ uIs l k := by
  rcases (show k = 1 ∨ k = 2 ∨ k = 3 ∨ k = 4 by omega) with rfl | rfl | rfl | rfl
  · match l, hk with
    | x :: l, _ =>
      have hx := hb x (by simp)
      unfold uIs
      rw [uSize_1]
      show rPut x = [x] ↔ x < 128 ∧ _
      rw [put_1 hx]
      exact ⟨fun h => ⟨h, fun i hi h1 => by omega⟩, fun h => h.1⟩
  · match l, hk with
    | x :: y :: l, _ =>
      have hx := hb x (by simp)
      have hy := hb y (by simp)
      unfold uIs
      rw [uSize_2, all_lt2]
      show rPut ((x - 192) * 64 + y - 128) = [x, y] ↔ (194 ≤ x ∧ x < 224) ∧ uLow x ≤ y ∧ y ≤ uHigh x
      rw [put_2 hx hy]
      unfold uLow uHigh
      repeat' split
      all_goals omega
  · match l, hk with
    | x :: y :: z :: l, _ =>
      have hx := hb x (by simp)
      have hy := hb y (by simp)
      have hz := hb z (by simp)
      unfold uIs
      rw [uSize_3, all_lt3]
      show rPut (((x - 224) * 64 + y - 128) * 64 + z - 128) = [x, y, z] ↔ (224 ≤ x ∧ x < 240) ∧ (uLow x ≤ y ∧ y ≤ uHigh x) ∧ 128 ≤ z ∧ z ≤ 191
      exact put_3 hx hy hz
  · match l, hk with
    | x :: y :: z :: u :: l, _ =>
      have hx := hb x (by simp)
      have hy := hb y (by simp)
      have hz := hb z (by simp)
      have hu := hb u (by simp)
      unfold uIs
      rw [uSize_4, all_lt4]
      show rPut ((((x - 240) * 64 + y - 128) * 64 + z - 128) * 64 + u - 128) = [x, y, z, u] ↔ (240 ≤ x ∧ x < 245) ∧ (uLow x ≤ y ∧ y ≤ uHigh x) ∧ (128 ≤ z ∧ z ≤ 191) ∧ 128 ≤ u ∧ u ≤ 191
      exact put_4 hx hy hz hu
theorem uNext_is {l : List Int} {k : Nat} (h1 : 1 ≤ k) (hk : k ≤ l.length) (h : uIs l k) : uNext l = k := by
  unfold uNext
  have e := h.1
  rw [e, if_pos ⟨by omega, hk, h⟩]
theorem uNext_none {l : List Int} (h : ∀ k, 1 ≤ k → k ≤ 4 → k ≤ l.length → ¬ uIs l k) : uNext l = 0 := by
  unfold uNext
  split
  · next g =>
    rcases Nat.eq_zero_or_pos (uSize (rd l 0)) with e | e
    · exact e
    · exact absurd g.2.2 (h _ e (uSize_le _) g.2.1)
  · rfl
end Go.Proofs.Ytdbkbeojedndbaa
