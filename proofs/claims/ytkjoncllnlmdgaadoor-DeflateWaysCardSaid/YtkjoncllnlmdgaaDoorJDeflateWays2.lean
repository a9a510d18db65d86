/-
  Texts joined into one file: DeflateWays.
-/
import Derived.Test.YtkjoncllnlmdgaaDoorJAw917
import Derived.Test.YtkjoncllnlmdgaaDoorJDeflateWays1
import Derived.Test.YtkjoncllnlmdgaaDoorJRef9Y7
/-
  The walk of the law DeflateWays.
-/
namespace Go.Proofs.YtkjoncllnlmdgaaDoor
open Go.RowKit

set_option maxHeartbeats 1000000 in
set_option maxRecDepth 100000 in
theorem DeflateWays_walk (A : Option Addr) (len cap : Nat) (zs : List Int) (w : World) (hz : IsRow .u8 w A len cap zs) (hlen : len * 1 ≤ 140737488351232) (hL : Tabs9 w) :
    Calls Tryd.prog 5 #[.slice A len cap] w fun e w' => e = .returned (.bool true) ∧ Below w.heap.size w w' := by
  obtain ⟨bs, hbs⟩ : ∃ bs, bs = zs.take len := ⟨_, rfl⟩
  have hR : Rd w .u8 A len bs := by rw [hbs]; exact hz.rd
  have hb : ∀ j, j < len → 0 ≤ rd bs j ∧ rd bs j ≤ 255 := by rw [hbs]; exact hz.u8
  have HA := Lib.hid (row_none hz)
  have hcap := row_cap hz
  have HT := Lib.hid hL.1
  have HO := Lib.hid hL.2
  have HR := Lib.hid hR
  have Hb := Lib.hid hb
  have Hl := Lib.hid hR.1
  clear hz hbs hR hb hL
  go_enter Tryd.func5, Tryd.ntmps5
  go_wp2_with fail
  refine (awake9_calls _ HT.out HO.out).mono ?_
  rintro e w1 ⟨rfl, hb1⟩
  have HB1 := Lib.hid hb1
  clear hb1
  by_cases hle : len ≤ 900
  · have hbl : bs.length ≤ 65535 := by rw [Hl.out]; omega
    have Hbl := Lib.hid hbl
    clear hbl
    have Hbm : Hid (∀ x ∈ bs, 0 ≤ x ∧ x ≤ 255) := fun x hx => by
      obtain ⟨j, hj, rfl⟩ := List.mem_iff_getElem.1 hx
      have := Hb.out j (by rw [← Hl.out]; exact hj)
      rwa [rd_getElem hj] at this
    have Hfb := Lib.hid (fixedS_bit bs)
    have Hdb := Lib.hid (dynS_bit bs)
    have hflx := fixedS_le Hl.out Hb.out (by omega)
    have hdlx := dynS_le Hl.out Hb.out (by omega)
    obtain ⟨nf, hnf⟩ : ∃ n, n = (packB (fixedS bs)).length := ⟨_, rfl⟩
    obtain ⟨nd, hnd⟩ : ∃ n, n = (packB (dynS bs)).length := ⟨_, rfl⟩
    obtain ⟨lx, hlx⟩ : ∃ n, n = (fixedS bs).length := ⟨_, rfl⟩
    obtain ⟨ly, hly⟩ : ∃ n, n = (dynS bs).length := ⟨_, rfl⟩
    obtain ⟨ns, hns⟩ : ∃ n, n = (storedB bs).length := ⟨_, rfl⟩
    obtain ⟨ss, hss⟩ : ∃ s, s = strOfNums (storedB bs) := ⟨_, rfl⟩
    obtain ⟨sf, hsf⟩ : ∃ s, s = strOfNums (packB (fixedS bs)) := ⟨_, rfl⟩
    obtain ⟨sd, hsd⟩ : ∃ s, s = strOfNums (packB (dynS bs)) := ⟨_, rfl⟩
    have Hlx : Hid ((lx + 7) / 8 = nf) := Lib.hid (show (lx + 7) / 8 = nf by rw [hnf, packB_length, hlx])
    have Hly : Hid ((ly + 7) / 8 = nd) := Lib.hid (show (ly + 7) / 8 = nd by rw [hnd, packB_length, hly])
    have hp1 := dynS_pos bs
    have hp2 := fixedS_pos bs
    have hp3 := storedB_length Hbl.out
    rw [← hlx] at hp2 hflx
    rw [← hly] at hp1 hdlx
    rw [← hns] at hp3
    have hnf0 : 0 < nf := by have := Hlx.out; omega
    have hnd0 : 0 < nd := by have := Hly.out; omega
    have hns0 : 0 < ns := by omega
    have Hx := Lib.hid hlx
    have Hy := Lib.hid hly
    have Hnf := Lib.hid hnf
    have Hnd := Lib.hid hnd
    have Hns := Lib.hid hns
    have Hss := Lib.hid hss
    have Hsf := Lib.hid hsf
    have Hsd := Lib.hid hsd
    clear hnf hnd hlx hly hns hss hsf hsd hp1 hp2 hp3
    go_wp2_with fail
    refine (DFixed_calls A len cap bs _ (HR.out.below HB1.out) Hb.out hcap (by omega) (HT.out.below HB1.out)).mono ?_
    rintro e w3 ⟨v3, rfl, ho3, _, hb3⟩
    have HB3 := Lib.hid (below_seq HB1.out (Nat.le_refl _) hb3)
    obtain ⟨Af, cf, rfl, _, hrf⟩ := own_rd ho3.out
    rw [← Hnf.out] at hrf ⊢
    rw [← Hx.out]
    have Hrf := Lib.hid hrf
    clear ho3 hb3 hrf
    go_wp2_with fail
    refine (DDyn_calls A len cap bs _ (HR.out.below HB3.out) Hb.out hcap (by omega) (HT.out.below HB3.out) (fun j hj => kept_cell HB3.out (HO.out j hj))).mono ?_
    rintro e w4 ⟨v4, rfl, ho4, _, hb4⟩
    have HB4 := Lib.hid (below_seq HB3.out (Nat.le_refl _) hb4)
    obtain ⟨Ad, cd, rfl, _, hrd⟩ := own_rd ho4.out
    rw [← Hnd.out] at hrd ⊢
    rw [← Hy.out]
    have Hrd := Lib.hid hrd
    have Hrf4 := Lib.hid (Hrf.out.below hb4)
    clear ho4 hb4 hrd Hrf
    go_wp2_with fail
    refine (rFixed_calls A len cap bs _ (HR.out.below HB4.out) Hb.out (by omega)).mono ?_
    rintro e w5 ⟨v5, rfl, ho5, hb5⟩
    have HB5 := Lib.hid (below_seq HB4.out (Nat.le_refl _) hb5)
    obtain ⟨Ax, cx, rfl, _, hrx⟩ := own_rd ho5.out
    have hnx := own_none ho5.out
    rw [← Hx.out] at hrx hnx ⊢
    have Hnx0 := Lib.hid hnx
    have Hrx0 := Lib.hid hrx
    have Hrd5 := Lib.hid (Hrd.out.below hb5)
    have Hrf5 := Lib.hid (Hrf4.out.below hb5)
    clear ho5 hb5 hrx hnx Hrf4 Hrd
    go_wp2_with fail
    refine (rDyn_calls A len cap bs _ (HR.out.below HB5.out) Hb.out (by omega)).mono ?_
    rintro e w6 ⟨v6, rfl, ho6, hb6⟩
    have HB6 := Lib.hid (below_seq HB5.out (Nat.le_refl _) hb6)
    obtain ⟨Ay, cy, rfl, _, hry⟩ := own_rd ho6.out
    have hny := own_none ho6.out
    rw [← Hy.out] at hry hny ⊢
    have Hny := Lib.hid hny
    have Hry := Lib.hid hry
    have Hrx := Lib.hid (Hrx0.out.below hb6)
    have Hnx := Lib.hid Hnx0.out
    have cvf := conv_later (c := cf) (Hrf5.out.below hb6) hnf0
    have cvd := conv_later (c := cd) (Hrd5.out.below hb6) hnd0
    rw [← Hsf.out] at cvf
    rw [← Hsd.out] at cvd
    have L0 : Later w6 w6.drew := (Later.refl w6).drew
    clear ho6 hb6 hry hny Hrf5 Hrd5 Hrx0 Hnx0
    go_upto_region 6 with fail
    refine wp_region_noPanic ?_
    refine wp_region_held_drew (S := fun W => Later w6 W) (by kernel_rfl) (L0) (fun hHeld => ?_)
    refine' wpAnyH_take (i := 0) (oi := ⟨_, _, _, _, _, _⟩) (v := _) rfl (by kernel_rfl) (by kernel_rfl) (by kernel_rfl) (fun _ _ _ h => h) (Or.inl ⟨by rfl, ?hya0⟩) (by assumption) ?resta0
    case hya0 => (intro w hSw; (try dsimp only at hSw); go_simp; try with_reducible rfl)
    try simp only [Act.put, List.setIfInBounds_toArray, List.set_cons_zero, List.set_cons_succ]
    refine' wpAnyH_take (i := 3) (oi := ⟨_, _, _, _, _, _⟩) (v := _) rfl (by kernel_rfl) (by kernel_rfl) (by kernel_rfl) (fun _ _ _ h => h) (Or.inl ⟨by rfl, ?hya3⟩) (by assumption) ?resta3
    case hya3 => (intro w hSw; (try dsimp only at hSw); go_simp; try with_reducible rfl)
    try simp only [Act.put, List.setIfInBounds_toArray, List.set_cons_zero, List.set_cons_succ]
    refine wpAnyH_ready (rs := [1]) (by kernel_rfl) (by simp) ?_
    refine AllReadyH.cons (o := ⟨_, _, _, _, _, _⟩) rfl (fun K hK => ?_) AllReadyH.nil
    go_simp
    go_at_call 31
    have HBL := HB6.out.trans ((Later.bel L0).mono HB6.out.size)
    refine (Stored_calls A len cap bs _ (HR.out.below HBL) Hbm.out HA.out hcap (by omega)).mono ?_
    clear HBL
    rintro e wA ⟨vA, rfl, hoA, hbA⟩
    have LA : Later w6 wA := Later.step L0 hbA
    obtain ⟨aA, cA, rfl, _, hrA⟩ := own_rd hoA
    rw [← Hns.out] at hrA ⊢
    have HrA := Lib.hid hrA
    clear hrA hoA hbA
    refine hK.out _ _ (LA) (fun hHeldN => ?_)
    clear hK K hHeld
    have hHeld := hHeldN
    clear hHeldN
    try simp only [Act.put, List.setIfInBounds_toArray, List.set_cons_zero, List.set_cons_succ]
    refine wpAnyH_ready (rs := [2, 4]) (by kernel_rfl) (by simp) ?_
    refine AllReadyH.cons (o := ⟨_, _, _, _, _, _⟩) rfl (fun K hK => ?_) (AllReadyH.cons (o := ⟨_, _, _, _, _, _⟩) rfl (fun K hK => ?_) AllReadyH.nil)
    · have cv := conv_rd9 (c := cA) HrA.out hns0
      rw [← Hss.out] at cv
      go_simp
      clear cv
      refine hK.out _ _ (LA) (fun hHeldN => ?_)
      clear hK K hHeld
      have hHeld := hHeldN
      clear hHeldN
      try simp only [Act.put, List.setIfInBounds_toArray, List.set_cons_zero, List.set_cons_succ]
      refine wpAnyH_ready (rs := [4]) (by kernel_rfl) (by simp) ?_
      refine AllReadyH.cons (o := ⟨_, _, _, _, _, _⟩) rfl (fun K hK => ?_) AllReadyH.nil
      go_simp
      go_at_call 32
      have HBL := HB6.out.trans ((Later.bel LA).mono HB6.out.size)
      refine (rStored_calls A len cap bs _ (HR.out.below HBL) HA.out hcap (by omega)).mono ?_
      clear HBL
      rintro e wB ⟨vB, rfl, hoB, hbB⟩
      have LB : Later w6 wB := Later.step LA hbB
      obtain ⟨aB, cB, rfl, _, hrB⟩ := own_rd hoB
      rw [← Hns.out] at hrB ⊢
      have HrB := Lib.hid hrB
      have HrA' := Lib.hid (HrA.out.below hbB)
      clear hrB hoB hbB
      refine hK.out _ _ (LB) (fun hHeldN => ?_)
      clear hK K hHeld
      have hHeld := hHeldN
      clear hHeldN
      try simp only [Act.put, List.setIfInBounds_toArray, List.set_cons_zero, List.set_cons_succ]
      refine wpAnyH_ready (rs := [5]) (by kernel_rfl) (by simp) ?_
      refine AllReadyH.cons (o := ⟨_, _, _, _, _, _⟩) rfl (fun K hK => ?_) AllReadyH.nil
      have cv := conv_rd9 (c := cB) HrB.out hns0
      rw [← Hss.out] at cv
      go_simp
      clear cv
      refine hK.out _ _ (LB) (fun hHeldN => ?_)
      clear hK K hHeld
      have hHeld := hHeldN
      clear hHeldN
      try simp only [Act.put, List.setIfInBounds_toArray, List.set_cons_zero, List.set_cons_succ]
      refine' wpAnyH_take (i := 6) (oi := ⟨_, _, _, _, _, _⟩) (v := _) rfl (by kernel_rfl) (by kernel_rfl) (by kernel_rfl) (fun _ _ _ h => h) (Or.inl ⟨by rfl, ?hyz1_6⟩) (by assumption) ?restz1_6
      case hyz1_6 => (intro w hSw; (try dsimp only at hSw); go_simp; try with_reducible rfl)
      try simp only [Act.put, List.setIfInBounds_toArray, List.set_cons_zero, List.set_cons_succ]
      refine' wpAnyH_take (i := 7) (oi := ⟨_, _, _, _, _, _⟩) (v := _) rfl (by kernel_rfl) (by kernel_rfl) (by kernel_rfl) (fun _ _ _ h => h) (Or.inl ⟨by rfl, ?hyz1_7⟩) (by assumption) ?restz1_7
      case hyz1_7 => (intro w hSw; (try dsimp only at hSw); go_simp; try with_reducible rfl)
      try simp only [Act.put, List.setIfInBounds_toArray, List.set_cons_zero, List.set_cons_succ]
      refine' wpAnyH_take (i := 8) (oi := ⟨_, _, _, _, _, _⟩) (v := _) rfl (by kernel_rfl) (by kernel_rfl) (by kernel_rfl) (fun _ _ _ h => h) (Or.inl ⟨by rfl, ?hyz1_8⟩) (by assumption) ?restz1_8
      case hyz1_8 => (intro w hSw; (try dsimp only at hSw); go_simp; try with_reducible rfl)
      try simp only [Act.put, List.setIfInBounds_toArray, List.set_cons_zero, List.set_cons_succ]
      refine' wpAnyH_take (i := 9) (oi := ⟨_, _, _, _, _, _⟩) (v := _) rfl (by kernel_rfl) (by kernel_rfl) (by kernel_rfl) (fun _ _ _ h => h) (Or.inl ⟨by rfl, ?hyz1_9⟩) (by assumption) ?restz1_9
      case hyz1_9 => (intro w hSw; (try dsimp only at hSw); go_simp; try with_reducible rfl)
      try simp only [Act.put, List.setIfInBounds_toArray, List.set_cons_zero, List.set_cons_succ]
      refine' wpAnyH_take (i := 10) (oi := ⟨_, _, _, _, _, _⟩) (v := _) rfl (by kernel_rfl) (by kernel_rfl) (by kernel_rfl) (fun _ _ _ h => h) (Or.inl ⟨by rfl, ?hyz1_10⟩) (by assumption) ?restz1_10
      case hyz1_10 => (intro w hSw; (try dsimp only at hSw); go_simp; try with_reducible rfl)
      try simp only [Act.put, List.setIfInBounds_toArray, List.set_cons_zero, List.set_cons_succ]
      refine' wpAnyH_take (i := 11) (oi := ⟨_, _, _, _, _, _⟩) (v := _) rfl (by kernel_rfl) (by kernel_rfl) (by kernel_rfl) (fun _ _ _ h => h) (Or.inl ⟨by rfl, ?hyz1_11⟩) (by assumption) ?restz1_11
      case hyz1_11 => (intro w hSw; (try dsimp only at hSw); go_simp; try with_reducible rfl)
      try simp only [Act.put, List.setIfInBounds_toArray, List.set_cons_zero, List.set_cons_succ]
      refine' wpAnyH_take (i := 12) (oi := ⟨_, _, _, _, _, _⟩) (v := _) rfl (by kernel_rfl) (by kernel_rfl) (by kernel_rfl) (fun _ _ _ h => h) (Or.inl ⟨by rfl, ?hyz1_12⟩) (by assumption) ?restz1_12
      case hyz1_12 => (intro w hSw; (try dsimp only at hSw); go_simp; try with_reducible rfl)
      try simp only [Act.put, List.setIfInBounds_toArray, List.set_cons_zero, List.set_cons_succ]
      refine' wpAnyH_take (i := 13) (oi := ⟨_, _, _, _, _, _⟩) (v := _) rfl (by kernel_rfl) (by kernel_rfl) (by kernel_rfl) (fun _ _ _ h => h) (Or.inl ⟨by rfl, ?hyz1_13⟩) (by assumption) ?restz1_13
      case hyz1_13 => (intro w hSw; (try dsimp only at hSw); go_simp; try with_reducible rfl)
      try simp only [Act.put, List.setIfInBounds_toArray, List.set_cons_zero, List.set_cons_succ]
      refine' wpAnyH_take (i := 14) (oi := ⟨_, _, _, _, _, _⟩) (v := _) rfl (by kernel_rfl) (by kernel_rfl) (by kernel_rfl) (fun _ _ _ h => h) (Or.inl ⟨by rfl, ?hyz1_14⟩) (by assumption) ?restz1_14
      case hyz1_14 => (intro w hSw; (try dsimp only at hSw); go_simp; try with_reducible rfl)
      try simp only [Act.put, List.setIfInBounds_toArray, List.set_cons_zero, List.set_cons_succ]
      refine' wpAnyH_take (i := 15) (oi := ⟨_, _, _, _, _, _⟩) (v := _) rfl (by kernel_rfl) (by kernel_rfl) (by kernel_rfl) (fun _ _ _ h => h) (Or.inl ⟨by rfl, ?hyz1_15⟩) (by assumption) ?restz1_15
      case hyz1_15 => (intro w hSw; (try dsimp only at hSw); go_simp; try with_reducible rfl)
      try simp only [Act.put, List.setIfInBounds_toArray, List.set_cons_zero, List.set_cons_succ]
      refine' wpAnyH_take (i := 16) (oi := ⟨_, _, _, _, _, _⟩) (v := _) rfl (by kernel_rfl) (by kernel_rfl) (by kernel_rfl) (fun _ _ _ h => h) (Or.inl ⟨by rfl, ?hyz1_16⟩) (by assumption) ?restz1_16
      case hyz1_16 => (intro w hSw; (try dsimp only at hSw); go_simp; try with_reducible rfl)
      try simp only [Act.put, List.setIfInBounds_toArray, List.set_cons_zero, List.set_cons_succ]
      refine wpAnyH_ready (rs := [17]) (by kernel_rfl) (by simp) ?_
      refine AllReadyH.cons (o := ⟨_, _, _, _, _, _⟩) rfl (fun K hK => ?_) AllReadyH.nil
      go_simp
      go_at_call 33
      refine (Bytes_calls Ax lx cx (fixedS bs) _ (Hrx.out.below (Later.bel LB)) Hnx.out Hfb.out (by omega)).mono ?_
      rintro e wC ⟨vC, rfl, hoC, hbC⟩
      have LC : Later w6 wC := Later.step LB hbC
      rw [Hlx.out] at hoC
      obtain ⟨aC, cC, rfl, _, hrC⟩ := own_rd hoC
      have cvC := conv_rd9 (c := cC) hrC hnf0
      rw [← Hsf.out] at cvC
      clear hoC hbC hrC
      refine hK.out _ _ (LC) (fun hHeldN => ?_)
      clear hK K hHeld
      have hHeld := hHeldN
      clear hHeldN
      try simp only [Act.put, List.setIfInBounds_toArray, List.set_cons_zero, List.set_cons_succ]
      refine wpAnyH_ready (rs := [18]) (by kernel_rfl) (by simp) ?_
      refine AllReadyH.cons (o := ⟨_, _, _, _, _, _⟩) rfl (fun K hK => ?_) AllReadyH.nil
      go_simp
      clear cvC
      refine hK.out _ _ (LC) (fun hHeldN => ?_)
      clear hK K hHeld
      have hHeld := hHeldN
      clear hHeldN
      try simp only [Act.put, List.setIfInBounds_toArray, List.set_cons_zero, List.set_cons_succ]
      refine' wpAnyH_take (i := 19) (oi := ⟨_, _, _, _, _, _⟩) (v := _) rfl (by kernel_rfl) (by kernel_rfl) (by kernel_rfl) (fun _ _ _ h => h) (Or.inl ⟨by rfl, ?hyz1_19⟩) (by assumption) ?restz1_19
      case hyz1_19 => (intro w hSw; (try dsimp only at hSw); go_simp; try with_reducible rfl)
      try simp only [Act.put, List.setIfInBounds_toArray, List.set_cons_zero, List.set_cons_succ]
      refine' wpAnyH_take (i := 20) (oi := ⟨_, _, _, _, _, _⟩) (v := _) rfl (by kernel_rfl) (by kernel_rfl) (by kernel_rfl) (fun _ _ _ h => h) (Or.inl ⟨by rfl, ?hyz1_20⟩) (by assumption) ?restz1_20
      case hyz1_20 => (intro w hSw; (try dsimp only at hSw); go_simp; try with_reducible rfl)
      try simp only [Act.put, List.setIfInBounds_toArray, List.set_cons_zero, List.set_cons_succ]
      refine' wpAnyH_take (i := 21) (oi := ⟨_, _, _, _, _, _⟩) (v := _) rfl (by kernel_rfl) (by kernel_rfl) (by kernel_rfl) (fun _ _ _ h => h) (Or.inl ⟨by rfl, ?hyz1_21⟩) (by assumption) ?restz1_21
      case hyz1_21 => (intro w hSw; (try dsimp only at hSw); go_simp; try with_reducible rfl)
      try simp only [Act.put, List.setIfInBounds_toArray, List.set_cons_zero, List.set_cons_succ]
      refine' wpAnyH_take (i := 22) (oi := ⟨_, _, _, _, _, _⟩) (v := _) rfl (by kernel_rfl) (by kernel_rfl) (by kernel_rfl) (fun _ _ _ h => h) (Or.inl ⟨by rfl, ?hyz1_22⟩) (by assumption) ?restz1_22
      case hyz1_22 => (intro w hSw; (try dsimp only at hSw); go_simp; try with_reducible rfl)
      try simp only [Act.put, List.setIfInBounds_toArray, List.set_cons_zero, List.set_cons_succ]
      refine' wpAnyH_take (i := 23) (oi := ⟨_, _, _, _, _, _⟩) (v := _) rfl (by kernel_rfl) (by kernel_rfl) (by kernel_rfl) (fun _ _ _ h => h) (Or.inl ⟨by rfl, ?hyz1_23⟩) (by assumption) ?restz1_23
      case hyz1_23 => (intro w hSw; (try dsimp only at hSw); go_simp; try with_reducible rfl)
      try simp only [Act.put, List.setIfInBounds_toArray, List.set_cons_zero, List.set_cons_succ]
      refine' wpAnyH_take (i := 24) (oi := ⟨_, _, _, _, _, _⟩) (v := _) rfl (by kernel_rfl) (by kernel_rfl) (by kernel_rfl) (fun _ _ _ h => h) (Or.inl ⟨by rfl, ?hyz1_24⟩) (by assumption) ?restz1_24
      case hyz1_24 => (intro w hSw; (try dsimp only at hSw); go_simp; try with_reducible rfl)
      try simp only [Act.put, List.setIfInBounds_toArray, List.set_cons_zero, List.set_cons_succ]
      refine' wpAnyH_take (i := 25) (oi := ⟨_, _, _, _, _, _⟩) (v := _) rfl (by kernel_rfl) (by kernel_rfl) (by kernel_rfl) (fun _ _ _ h => h) (Or.inl ⟨by rfl, ?hyz1_25⟩) (by assumption) ?restz1_25
      case hyz1_25 => (intro w hSw; (try dsimp only at hSw); go_simp; try with_reducible rfl)
      try simp only [Act.put, List.setIfInBounds_toArray, List.set_cons_zero, List.set_cons_succ]
      refine' wpAnyH_take (i := 26) (oi := ⟨_, _, _, _, _, _⟩) (v := _) rfl (by kernel_rfl) (by kernel_rfl) (by kernel_rfl) (fun _ _ _ h => h) (Or.inl ⟨by rfl, ?hyz1_26⟩) (by assumption) ?restz1_26
      case hyz1_26 => (intro w hSw; (try dsimp only at hSw); go_simp; try with_reducible rfl)
      try simp only [Act.put, List.setIfInBounds_toArray, List.set_cons_zero, List.set_cons_succ]
      refine' wpAnyH_take (i := 27) (oi := ⟨_, _, _, _, _, _⟩) (v := _) rfl (by kernel_rfl) (by kernel_rfl) (by kernel_rfl) (fun _ _ _ h => h) (Or.inl ⟨by rfl, ?hyz1_27⟩) (by assumption) ?restz1_27
      case hyz1_27 => (intro w hSw; (try dsimp only at hSw); go_simp; try with_reducible rfl)
      try simp only [Act.put, List.setIfInBounds_toArray, List.set_cons_zero, List.set_cons_succ]
      refine' wpAnyH_take (i := 28) (oi := ⟨_, _, _, _, _, _⟩) (v := _) rfl (by kernel_rfl) (by kernel_rfl) (by kernel_rfl) (fun _ _ _ h => h) (Or.inl ⟨by rfl, ?hyz1_28⟩) (by assumption) ?restz1_28
      case hyz1_28 => (intro w hSw; (try dsimp only at hSw); go_simp; try with_reducible rfl)
      try simp only [Act.put, List.setIfInBounds_toArray, List.set_cons_zero, List.set_cons_succ]
      refine' wpAnyH_take (i := 29) (oi := ⟨_, _, _, _, _, _⟩) (v := _) rfl (by kernel_rfl) (by kernel_rfl) (by kernel_rfl) (fun _ _ _ h => h) (Or.inl ⟨by rfl, ?hyz1_29⟩) (by assumption) ?restz1_29
      case hyz1_29 => (intro w hSw; (try dsimp only at hSw); go_simp; try with_reducible rfl)
      try simp only [Act.put, List.setIfInBounds_toArray, List.set_cons_zero, List.set_cons_succ]
      refine' wpAnyH_take (i := 30) (oi := ⟨_, _, _, _, _, _⟩) (v := _) rfl (by kernel_rfl) (by kernel_rfl) (by kernel_rfl) (fun _ _ _ h => h) (Or.inl ⟨by rfl, ?hyz1_30⟩) (by assumption) ?restz1_30
      case hyz1_30 => (intro w hSw; (try dsimp only at hSw); go_simp; try with_reducible rfl)
      try simp only [Act.put, List.setIfInBounds_toArray, List.set_cons_zero, List.set_cons_succ]
      refine wpAnyH_ready (rs := [31]) (by kernel_rfl) (by simp) ?_
      refine AllReadyH.cons (o := ⟨_, _, _, _, _, _⟩) rfl (fun K hK => ?_) AllReadyH.nil
      go_simp
      go_at_call 33
      refine (Bytes_calls Ay ly cy (dynS bs) _ (Hry.out.below (Later.bel LC)) Hny.out Hdb.out (by omega)).mono ?_
      rintro e wD ⟨vD, rfl, hoD, hbD⟩
      have LD : Later w6 wD := Later.step LC hbD
      rw [Hly.out] at hoD
      obtain ⟨aD, cD, rfl, _, hrD⟩ := own_rd hoD
      have cvD := conv_rd9 (c := cD) hrD hnd0
      rw [← Hsd.out] at cvD
      clear hoD hbD hrD
      refine hK.out _ _ (LD) (fun hHeldN => ?_)
      clear hK K hHeld
      have hHeld := hHeldN
      clear hHeldN
      try simp only [Act.put, List.setIfInBounds_toArray, List.set_cons_zero, List.set_cons_succ]
      refine wpAnyH_ready (rs := [32]) (by kernel_rfl) (by simp) ?_
      refine AllReadyH.cons (o := ⟨_, _, _, _, _, _⟩) rfl (fun K hK => ?_) AllReadyH.nil
      go_simp
      clear cvD
      refine hK.out _ _ (LD) (fun hHeldN => ?_)
      clear hK K hHeld
      have hHeld := hHeldN
      clear hHeldN
      try simp only [Act.put, List.setIfInBounds_toArray, List.set_cons_zero, List.set_cons_succ]
      refine' wpAnyH_take (i := 33) (oi := ⟨_, _, _, _, _, _⟩) (v := _) rfl (by kernel_rfl) (by kernel_rfl) (by kernel_rfl) (fun _ _ _ h => h) (Or.inl ⟨by rfl, ?hyz1_33⟩) (by assumption) ?restz1_33
      case hyz1_33 => (intro w hSw; (try dsimp only at hSw); go_simp; try with_reducible rfl)
      try simp only [Act.put, List.setIfInBounds_toArray, List.set_cons_zero, List.set_cons_succ]
      refine' wpAnyH_take (i := 34) (oi := ⟨_, _, _, _, _, _⟩) (v := _) rfl (by kernel_rfl) (by kernel_rfl) (by kernel_rfl) (fun _ _ _ h => h) (Or.inl ⟨by rfl, ?hyz1_34⟩) (by assumption) ?restz1_34
      case hyz1_34 => (intro w hSw; (try dsimp only at hSw); go_simp; try with_reducible rfl)
      try simp only [Act.put, List.setIfInBounds_toArray, List.set_cons_zero, List.set_cons_succ]
      refine' wpAnyH_take (i := 35) (oi := ⟨_, _, _, _, _, _⟩) (v := _) rfl (by kernel_rfl) (by kernel_rfl) (by kernel_rfl) (fun _ _ _ h => h) (Or.inl ⟨by rfl, ?hyz1_35⟩) (by assumption) ?restz1_35
      case hyz1_35 => (intro w hSw; (try dsimp only at hSw); go_simp; try with_reducible rfl)
      try simp only [Act.put, List.setIfInBounds_toArray, List.set_cons_zero, List.set_cons_succ]
      refine wpAnyH_done (by kernel_rfl) ?_ _
      refine NoPanic.normal ?_
      go_wp2
      go_ret
      exact ⟨rfl, HB6.out.trans ((Later.bel LD).mono HB6.out.size)⟩
    · go_simp
      go_at_call 32
      have HBL := HB6.out.trans ((Later.bel LA).mono HB6.out.size)
      refine (rStored_calls A len cap bs _ (HR.out.below HBL) HA.out hcap (by omega)).mono ?_
      clear HBL
      rintro e wB ⟨vB, rfl, hoB, hbB⟩
      have LB : Later w6 wB := Later.step LA hbB
      obtain ⟨aB, cB, rfl, _, hrB⟩ := own_rd hoB
      rw [← Hns.out] at hrB ⊢
      have HrB := Lib.hid hrB
      have HrA' := Lib.hid (HrA.out.below hbB)
      clear hrB hoB hbB
      refine hK.out _ _ (LB) (fun hHeldN => ?_)
      clear hK K hHeld
      have hHeld := hHeldN
      clear hHeldN
      try simp only [Act.put, List.setIfInBounds_toArray, List.set_cons_zero, List.set_cons_succ]
      refine wpAnyH_ready (rs := [2, 5]) (by kernel_rfl) (by simp) ?_
      refine AllReadyH.cons (o := ⟨_, _, _, _, _, _⟩) rfl (fun K hK => ?_) (AllReadyH.cons (o := ⟨_, _, _, _, _, _⟩) rfl (fun K hK => ?_) AllReadyH.nil)
      · have cv := conv_rd9 (c := cA) HrA'.out hns0
        rw [← Hss.out] at cv
        go_simp
        clear cv
        refine hK.out _ _ (LB) (fun hHeldN => ?_)
        clear hK K hHeld
        have hHeld := hHeldN
        clear hHeldN
        try simp only [Act.put, List.setIfInBounds_toArray, List.set_cons_zero, List.set_cons_succ]
        refine wpAnyH_ready (rs := [5]) (by kernel_rfl) (by simp) ?_
        refine AllReadyH.cons (o := ⟨_, _, _, _, _, _⟩) rfl (fun K hK => ?_) AllReadyH.nil
        have cv := conv_rd9 (c := cB) HrB.out hns0
        rw [← Hss.out] at cv
        go_simp
        clear cv
        refine hK.out _ _ (LB) (fun hHeldN => ?_)
        clear hK K hHeld
        have hHeld := hHeldN
        clear hHeldN
        try simp only [Act.put, List.setIfInBounds_toArray, List.set_cons_zero, List.set_cons_succ]
        refine' wpAnyH_take (i := 6) (oi := ⟨_, _, _, _, _, _⟩) (v := _) rfl (by kernel_rfl) (by kernel_rfl) (by kernel_rfl) (fun _ _ _ h => h) (Or.inl ⟨by rfl, ?hyz2_6⟩) (by assumption) ?restz2_6
        case hyz2_6 => (intro w hSw; (try dsimp only at hSw); go_simp; try with_reducible rfl)
        try simp only [Act.put, List.setIfInBounds_toArray, List.set_cons_zero, List.set_cons_succ]
        refine' wpAnyH_take (i := 7) (oi := ⟨_, _, _, _, _, _⟩) (v := _) rfl (by kernel_rfl) (by kernel_rfl) (by kernel_rfl) (fun _ _ _ h => h) (Or.inl ⟨by rfl, ?hyz2_7⟩) (by assumption) ?restz2_7
        case hyz2_7 => (intro w hSw; (try dsimp only at hSw); go_simp; try with_reducible rfl)
        try simp only [Act.put, List.setIfInBounds_toArray, List.set_cons_zero, List.set_cons_succ]
        refine' wpAnyH_take (i := 8) (oi := ⟨_, _, _, _, _, _⟩) (v := _) rfl (by kernel_rfl) (by kernel_rfl) (by kernel_rfl) (fun _ _ _ h => h) (Or.inl ⟨by rfl, ?hyz2_8⟩) (by assumption) ?restz2_8
        case hyz2_8 => (intro w hSw; (try dsimp only at hSw); go_simp; try with_reducible rfl)
        try simp only [Act.put, List.setIfInBounds_toArray, List.set_cons_zero, List.set_cons_succ]
        refine' wpAnyH_take (i := 9) (oi := ⟨_, _, _, _, _, _⟩) (v := _) rfl (by kernel_rfl) (by kernel_rfl) (by kernel_rfl) (fun _ _ _ h => h) (Or.inl ⟨by rfl, ?hyz2_9⟩) (by assumption) ?restz2_9
        case hyz2_9 => (intro w hSw; (try dsimp only at hSw); go_simp; try with_reducible rfl)
        try simp only [Act.put, List.setIfInBounds_toArray, List.set_cons_zero, List.set_cons_succ]
        refine' wpAnyH_take (i := 10) (oi := ⟨_, _, _, _, _, _⟩) (v := _) rfl (by kernel_rfl) (by kernel_rfl) (by kernel_rfl) (fun _ _ _ h => h) (Or.inl ⟨by rfl, ?hyz2_10⟩) (by assumption) ?restz2_10
        case hyz2_10 => (intro w hSw; (try dsimp only at hSw); go_simp; try with_reducible rfl)
        try simp only [Act.put, List.setIfInBounds_toArray, List.set_cons_zero, List.set_cons_succ]
        refine' wpAnyH_take (i := 11) (oi := ⟨_, _, _, _, _, _⟩) (v := _) rfl (by kernel_rfl) (by kernel_rfl) (by kernel_rfl) (fun _ _ _ h => h) (Or.inl ⟨by rfl, ?hyz2_11⟩) (by assumption) ?restz2_11
        case hyz2_11 => (intro w hSw; (try dsimp only at hSw); go_simp; try with_reducible rfl)
        try simp only [Act.put, List.setIfInBounds_toArray, List.set_cons_zero, List.set_cons_succ]
        refine' wpAnyH_take (i := 12) (oi := ⟨_, _, _, _, _, _⟩) (v := _) rfl (by kernel_rfl) (by kernel_rfl) (by kernel_rfl) (fun _ _ _ h => h) (Or.inl ⟨by rfl, ?hyz2_12⟩) (by assumption) ?restz2_12
        case hyz2_12 => (intro w hSw; (try dsimp only at hSw); go_simp; try with_reducible rfl)
        try simp only [Act.put, List.setIfInBounds_toArray, List.set_cons_zero, List.set_cons_succ]
        refine' wpAnyH_take (i := 13) (oi := ⟨_, _, _, _, _, _⟩) (v := _) rfl (by kernel_rfl) (by kernel_rfl) (by kernel_rfl) (fun _ _ _ h => h) (Or.inl ⟨by rfl, ?hyz2_13⟩) (by assumption) ?restz2_13
        case hyz2_13 => (intro w hSw; (try dsimp only at hSw); go_simp; try with_reducible rfl)
        try simp only [Act.put, List.setIfInBounds_toArray, List.set_cons_zero, List.set_cons_succ]
        refine' wpAnyH_take (i := 14) (oi := ⟨_, _, _, _, _, _⟩) (v := _) rfl (by kernel_rfl) (by kernel_rfl) (by kernel_rfl) (fun _ _ _ h => h) (Or.inl ⟨by rfl, ?hyz2_14⟩) (by assumption) ?restz2_14
        case hyz2_14 => (intro w hSw; (try dsimp only at hSw); go_simp; try with_reducible rfl)
        try simp only [Act.put, List.setIfInBounds_toArray, List.set_cons_zero, List.set_cons_succ]
        refine' wpAnyH_take (i := 15) (oi := ⟨_, _, _, _, _, _⟩) (v := _) rfl (by kernel_rfl) (by kernel_rfl) (by kernel_rfl) (fun _ _ _ h => h) (Or.inl ⟨by rfl, ?hyz2_15⟩) (by assumption) ?restz2_15
        case hyz2_15 => (intro w hSw; (try dsimp only at hSw); go_simp; try with_reducible rfl)
        try simp only [Act.put, List.setIfInBounds_toArray, List.set_cons_zero, List.set_cons_succ]
        refine' wpAnyH_take (i := 16) (oi := ⟨_, _, _, _, _, _⟩) (v := _) rfl (by kernel_rfl) (by kernel_rfl) (by kernel_rfl) (fun _ _ _ h => h) (Or.inl ⟨by rfl, ?hyz2_16⟩) (by assumption) ?restz2_16
        case hyz2_16 => (intro w hSw; (try dsimp only at hSw); go_simp; try with_reducible rfl)
        try simp only [Act.put, List.setIfInBounds_toArray, List.set_cons_zero, List.set_cons_succ]
        refine wpAnyH_ready (rs := [17]) (by kernel_rfl) (by simp) ?_
        refine AllReadyH.cons (o := ⟨_, _, _, _, _, _⟩) rfl (fun K hK => ?_) AllReadyH.nil
        go_simp
        go_at_call 33
        refine (Bytes_calls Ax lx cx (fixedS bs) _ (Hrx.out.below (Later.bel LB)) Hnx.out Hfb.out (by omega)).mono ?_
        rintro e wC ⟨vC, rfl, hoC, hbC⟩
        have LC : Later w6 wC := Later.step LB hbC
        rw [Hlx.out] at hoC
        obtain ⟨aC, cC, rfl, _, hrC⟩ := own_rd hoC
        have cvC := conv_rd9 (c := cC) hrC hnf0
        rw [← Hsf.out] at cvC
        clear hoC hbC hrC
        refine hK.out _ _ (LC) (fun hHeldN => ?_)
        clear hK K hHeld
        have hHeld := hHeldN
        clear hHeldN
        try simp only [Act.put, List.setIfInBounds_toArray, List.set_cons_zero, List.set_cons_succ]
        refine wpAnyH_ready (rs := [18]) (by kernel_rfl) (by simp) ?_
        refine AllReadyH.cons (o := ⟨_, _, _, _, _, _⟩) rfl (fun K hK => ?_) AllReadyH.nil
        go_simp
        clear cvC
        refine hK.out _ _ (LC) (fun hHeldN => ?_)
        clear hK K hHeld
        have hHeld := hHeldN
        clear hHeldN
        try simp only [Act.put, List.setIfInBounds_toArray, List.set_cons_zero, List.set_cons_succ]
        refine' wpAnyH_take (i := 19) (oi := ⟨_, _, _, _, _, _⟩) (v := _) rfl (by kernel_rfl) (by kernel_rfl) (by kernel_rfl) (fun _ _ _ h => h) (Or.inl ⟨by rfl, ?hyz2_19⟩) (by assumption) ?restz2_19
        case hyz2_19 => (intro w hSw; (try dsimp only at hSw); go_simp; try with_reducible rfl)
        try simp only [Act.put, List.setIfInBounds_toArray, List.set_cons_zero, List.set_cons_succ]
        refine' wpAnyH_take (i := 20) (oi := ⟨_, _, _, _, _, _⟩) (v := _) rfl (by kernel_rfl) (by kernel_rfl) (by kernel_rfl) (fun _ _ _ h => h) (Or.inl ⟨by rfl, ?hyz2_20⟩) (by assumption) ?restz2_20
        case hyz2_20 => (intro w hSw; (try dsimp only at hSw); go_simp; try with_reducible rfl)
        try simp only [Act.put, List.setIfInBounds_toArray, List.set_cons_zero, List.set_cons_succ]
        refine' wpAnyH_take (i := 21) (oi := ⟨_, _, _, _, _, _⟩) (v := _) rfl (by kernel_rfl) (by kernel_rfl) (by kernel_rfl) (fun _ _ _ h => h) (Or.inl ⟨by rfl, ?hyz2_21⟩) (by assumption) ?restz2_21
        case hyz2_21 => (intro w hSw; (try dsimp only at hSw); go_simp; try with_reducible rfl)
        try simp only [Act.put, List.setIfInBounds_toArray, List.set_cons_zero, List.set_cons_succ]
        refine' wpAnyH_take (i := 22) (oi := ⟨_, _, _, _, _, _⟩) (v := _) rfl (by kernel_rfl) (by kernel_rfl) (by kernel_rfl) (fun _ _ _ h => h) (Or.inl ⟨by rfl, ?hyz2_22⟩) (by assumption) ?restz2_22
        case hyz2_22 => (intro w hSw; (try dsimp only at hSw); go_simp; try with_reducible rfl)
        try simp only [Act.put, List.setIfInBounds_toArray, List.set_cons_zero, List.set_cons_succ]
        refine' wpAnyH_take (i := 23) (oi := ⟨_, _, _, _, _, _⟩) (v := _) rfl (by kernel_rfl) (by kernel_rfl) (by kernel_rfl) (fun _ _ _ h => h) (Or.inl ⟨by rfl, ?hyz2_23⟩) (by assumption) ?restz2_23
        case hyz2_23 => (intro w hSw; (try dsimp only at hSw); go_simp; try with_reducible rfl)
        try simp only [Act.put, List.setIfInBounds_toArray, List.set_cons_zero, List.set_cons_succ]
        refine' wpAnyH_take (i := 24) (oi := ⟨_, _, _, _, _, _⟩) (v := _) rfl (by kernel_rfl) (by kernel_rfl) (by kernel_rfl) (fun _ _ _ h => h) (Or.inl ⟨by rfl, ?hyz2_24⟩) (by assumption) ?restz2_24
        case hyz2_24 => (intro w hSw; (try dsimp only at hSw); go_simp; try with_reducible rfl)
        try simp only [Act.put, List.setIfInBounds_toArray, List.set_cons_zero, List.set_cons_succ]
        refine' wpAnyH_take (i := 25) (oi := ⟨_, _, _, _, _, _⟩) (v := _) rfl (by kernel_rfl) (by kernel_rfl) (by kernel_rfl) (fun _ _ _ h => h) (Or.inl ⟨by rfl, ?hyz2_25⟩) (by assumption) ?restz2_25
        case hyz2_25 => (intro w hSw; (try dsimp only at hSw); go_simp; try with_reducible rfl)
        try simp only [Act.put, List.setIfInBounds_toArray, List.set_cons_zero, List.set_cons_succ]
        refine' wpAnyH_take (i := 26) (oi := ⟨_, _, _, _, _, _⟩) (v := _) rfl (by kernel_rfl) (by kernel_rfl) (by kernel_rfl) (fun _ _ _ h => h) (Or.inl ⟨by rfl, ?hyz2_26⟩) (by assumption) ?restz2_26
        case hyz2_26 => (intro w hSw; (try dsimp only at hSw); go_simp; try with_reducible rfl)
        try simp only [Act.put, List.setIfInBounds_toArray, List.set_cons_zero, List.set_cons_succ]
        refine' wpAnyH_take (i := 27) (oi := ⟨_, _, _, _, _, _⟩) (v := _) rfl (by kernel_rfl) (by kernel_rfl) (by kernel_rfl) (fun _ _ _ h => h) (Or.inl ⟨by rfl, ?hyz2_27⟩) (by assumption) ?restz2_27
        case hyz2_27 => (intro w hSw; (try dsimp only at hSw); go_simp; try with_reducible rfl)
        try simp only [Act.put, List.setIfInBounds_toArray, List.set_cons_zero, List.set_cons_succ]
        refine' wpAnyH_take (i := 28) (oi := ⟨_, _, _, _, _, _⟩) (v := _) rfl (by kernel_rfl) (by kernel_rfl) (by kernel_rfl) (fun _ _ _ h => h) (Or.inl ⟨by rfl, ?hyz2_28⟩) (by assumption) ?restz2_28
        case hyz2_28 => (intro w hSw; (try dsimp only at hSw); go_simp; try with_reducible rfl)
        try simp only [Act.put, List.setIfInBounds_toArray, List.set_cons_zero, List.set_cons_succ]
        refine' wpAnyH_take (i := 29) (oi := ⟨_, _, _, _, _, _⟩) (v := _) rfl (by kernel_rfl) (by kernel_rfl) (by kernel_rfl) (fun _ _ _ h => h) (Or.inl ⟨by rfl, ?hyz2_29⟩) (by assumption) ?restz2_29
        case hyz2_29 => (intro w hSw; (try dsimp only at hSw); go_simp; try with_reducible rfl)
        try simp only [Act.put, List.setIfInBounds_toArray, List.set_cons_zero, List.set_cons_succ]
        refine' wpAnyH_take (i := 30) (oi := ⟨_, _, _, _, _, _⟩) (v := _) rfl (by kernel_rfl) (by kernel_rfl) (by kernel_rfl) (fun _ _ _ h => h) (Or.inl ⟨by rfl, ?hyz2_30⟩) (by assumption) ?restz2_30
        case hyz2_30 => (intro w hSw; (try dsimp only at hSw); go_simp; try with_reducible rfl)
        try simp only [Act.put, List.setIfInBounds_toArray, List.set_cons_zero, List.set_cons_succ]
        refine wpAnyH_ready (rs := [31]) (by kernel_rfl) (by simp) ?_
        refine AllReadyH.cons (o := ⟨_, _, _, _, _, _⟩) rfl (fun K hK => ?_) AllReadyH.nil
        go_simp
        go_at_call 33
        refine (Bytes_calls Ay ly cy (dynS bs) _ (Hry.out.below (Later.bel LC)) Hny.out Hdb.out (by omega)).mono ?_
        rintro e wD ⟨vD, rfl, hoD, hbD⟩
        have LD : Later w6 wD := Later.step LC hbD
        rw [Hly.out] at hoD
        obtain ⟨aD, cD, rfl, _, hrD⟩ := own_rd hoD
        have cvD := conv_rd9 (c := cD) hrD hnd0
        rw [← Hsd.out] at cvD
        clear hoD hbD hrD
        refine hK.out _ _ (LD) (fun hHeldN => ?_)
        clear hK K hHeld
        have hHeld := hHeldN
        clear hHeldN
        try simp only [Act.put, List.setIfInBounds_toArray, List.set_cons_zero, List.set_cons_succ]
        refine wpAnyH_ready (rs := [32]) (by kernel_rfl) (by simp) ?_
        refine AllReadyH.cons (o := ⟨_, _, _, _, _, _⟩) rfl (fun K hK => ?_) AllReadyH.nil
        go_simp
        clear cvD
        refine hK.out _ _ (LD) (fun hHeldN => ?_)
        clear hK K hHeld
        have hHeld := hHeldN
        clear hHeldN
        try simp only [Act.put, List.setIfInBounds_toArray, List.set_cons_zero, List.set_cons_succ]
        refine' wpAnyH_take (i := 33) (oi := ⟨_, _, _, _, _, _⟩) (v := _) rfl (by kernel_rfl) (by kernel_rfl) (by kernel_rfl) (fun _ _ _ h => h) (Or.inl ⟨by rfl, ?hyz2_33⟩) (by assumption) ?restz2_33
        case hyz2_33 => (intro w hSw; (try dsimp only at hSw); go_simp; try with_reducible rfl)
        try simp only [Act.put, List.setIfInBounds_toArray, List.set_cons_zero, List.set_cons_succ]
        refine' wpAnyH_take (i := 34) (oi := ⟨_, _, _, _, _, _⟩) (v := _) rfl (by kernel_rfl) (by kernel_rfl) (by kernel_rfl) (fun _ _ _ h => h) (Or.inl ⟨by rfl, ?hyz2_34⟩) (by assumption) ?restz2_34
        case hyz2_34 => (intro w hSw; (try dsimp only at hSw); go_simp; try with_reducible rfl)
        try simp only [Act.put, List.setIfInBounds_toArray, List.set_cons_zero, List.set_cons_succ]
        refine' wpAnyH_take (i := 35) (oi := ⟨_, _, _, _, _, _⟩) (v := _) rfl (by kernel_rfl) (by kernel_rfl) (by kernel_rfl) (fun _ _ _ h => h) (Or.inl ⟨by rfl, ?hyz2_35⟩) (by assumption) ?restz2_35
        case hyz2_35 => (intro w hSw; (try dsimp only at hSw); go_simp; try with_reducible rfl)
        try simp only [Act.put, List.setIfInBounds_toArray, List.set_cons_zero, List.set_cons_succ]
        refine wpAnyH_done (by kernel_rfl) ?_ _
        refine NoPanic.normal ?_
        go_wp2
        go_ret
        exact ⟨rfl, HB6.out.trans ((Later.bel LD).mono HB6.out.size)⟩
      · have cv := conv_rd9 (c := cB) HrB.out hns0
        rw [← Hss.out] at cv
        go_simp
        clear cv
        refine hK.out _ _ (LB) (fun hHeldN => ?_)
        clear hK K hHeld
        have hHeld := hHeldN
        clear hHeldN
        try simp only [Act.put, List.setIfInBounds_toArray, List.set_cons_zero, List.set_cons_succ]
        refine wpAnyH_ready (rs := [2]) (by kernel_rfl) (by simp) ?_
        refine AllReadyH.cons (o := ⟨_, _, _, _, _, _⟩) rfl (fun K hK => ?_) AllReadyH.nil
        have cv := conv_rd9 (c := cA) HrA'.out hns0
        rw [← Hss.out] at cv
        go_simp
        clear cv
        refine hK.out _ _ (LB) (fun hHeldN => ?_)
        clear hK K hHeld
        have hHeld := hHeldN
        clear hHeldN
        try simp only [Act.put, List.setIfInBounds_toArray, List.set_cons_zero, List.set_cons_succ]
        refine' wpAnyH_take (i := 6) (oi := ⟨_, _, _, _, _, _⟩) (v := _) rfl (by kernel_rfl) (by kernel_rfl) (by kernel_rfl) (fun _ _ _ h => h) (Or.inl ⟨by rfl, ?hyz3_6⟩) (by assumption) ?restz3_6
        case hyz3_6 => (intro w hSw; (try dsimp only at hSw); go_simp; try with_reducible rfl)
        try simp only [Act.put, List.setIfInBounds_toArray, List.set_cons_zero, List.set_cons_succ]
        refine' wpAnyH_take (i := 7) (oi := ⟨_, _, _, _, _, _⟩) (v := _) rfl (by kernel_rfl) (by kernel_rfl) (by kernel_rfl) (fun _ _ _ h => h) (Or.inl ⟨by rfl, ?hyz3_7⟩) (by assumption) ?restz3_7
        case hyz3_7 => (intro w hSw; (try dsimp only at hSw); go_simp; try with_reducible rfl)
        try simp only [Act.put, List.setIfInBounds_toArray, List.set_cons_zero, List.set_cons_succ]
        refine' wpAnyH_take (i := 8) (oi := ⟨_, _, _, _, _, _⟩) (v := _) rfl (by kernel_rfl) (by kernel_rfl) (by kernel_rfl) (fun _ _ _ h => h) (Or.inl ⟨by rfl, ?hyz3_8⟩) (by assumption) ?restz3_8
        case hyz3_8 => (intro w hSw; (try dsimp only at hSw); go_simp; try with_reducible rfl)
        try simp only [Act.put, List.setIfInBounds_toArray, List.set_cons_zero, List.set_cons_succ]
        refine' wpAnyH_take (i := 9) (oi := ⟨_, _, _, _, _, _⟩) (v := _) rfl (by kernel_rfl) (by kernel_rfl) (by kernel_rfl) (fun _ _ _ h => h) (Or.inl ⟨by rfl, ?hyz3_9⟩) (by assumption) ?restz3_9
        case hyz3_9 => (intro w hSw; (try dsimp only at hSw); go_simp; try with_reducible rfl)
        try simp only [Act.put, List.setIfInBounds_toArray, List.set_cons_zero, List.set_cons_succ]
        refine' wpAnyH_take (i := 10) (oi := ⟨_, _, _, _, _, _⟩) (v := _) rfl (by kernel_rfl) (by kernel_rfl) (by kernel_rfl) (fun _ _ _ h => h) (Or.inl ⟨by rfl, ?hyz3_10⟩) (by assumption) ?restz3_10
        case hyz3_10 => (intro w hSw; (try dsimp only at hSw); go_simp; try with_reducible rfl)
        try simp only [Act.put, List.setIfInBounds_toArray, List.set_cons_zero, List.set_cons_succ]
        refine' wpAnyH_take (i := 11) (oi := ⟨_, _, _, _, _, _⟩) (v := _) rfl (by kernel_rfl) (by kernel_rfl) (by kernel_rfl) (fun _ _ _ h => h) (Or.inl ⟨by rfl, ?hyz3_11⟩) (by assumption) ?restz3_11
        case hyz3_11 => (intro w hSw; (try dsimp only at hSw); go_simp; try with_reducible rfl)
        try simp only [Act.put, List.setIfInBounds_toArray, List.set_cons_zero, List.set_cons_succ]
        refine' wpAnyH_take (i := 12) (oi := ⟨_, _, _, _, _, _⟩) (v := _) rfl (by kernel_rfl) (by kernel_rfl) (by kernel_rfl) (fun _ _ _ h => h) (Or.inl ⟨by rfl, ?hyz3_12⟩) (by assumption) ?restz3_12
        case hyz3_12 => (intro w hSw; (try dsimp only at hSw); go_simp; try with_reducible rfl)
        try simp only [Act.put, List.setIfInBounds_toArray, List.set_cons_zero, List.set_cons_succ]
        refine' wpAnyH_take (i := 13) (oi := ⟨_, _, _, _, _, _⟩) (v := _) rfl (by kernel_rfl) (by kernel_rfl) (by kernel_rfl) (fun _ _ _ h => h) (Or.inl ⟨by rfl, ?hyz3_13⟩) (by assumption) ?restz3_13
        case hyz3_13 => (intro w hSw; (try dsimp only at hSw); go_simp; try with_reducible rfl)
        try simp only [Act.put, List.setIfInBounds_toArray, List.set_cons_zero, List.set_cons_succ]
        refine' wpAnyH_take (i := 14) (oi := ⟨_, _, _, _, _, _⟩) (v := _) rfl (by kernel_rfl) (by kernel_rfl) (by kernel_rfl) (fun _ _ _ h => h) (Or.inl ⟨by rfl, ?hyz3_14⟩) (by assumption) ?restz3_14
        case hyz3_14 => (intro w hSw; (try dsimp only at hSw); go_simp; try with_reducible rfl)
        try simp only [Act.put, List.setIfInBounds_toArray, List.set_cons_zero, List.set_cons_succ]
        refine' wpAnyH_take (i := 15) (oi := ⟨_, _, _, _, _, _⟩) (v := _) rfl (by kernel_rfl) (by kernel_rfl) (by kernel_rfl) (fun _ _ _ h => h) (Or.inl ⟨by rfl, ?hyz3_15⟩) (by assumption) ?restz3_15
        case hyz3_15 => (intro w hSw; (try dsimp only at hSw); go_simp; try with_reducible rfl)
        try simp only [Act.put, List.setIfInBounds_toArray, List.set_cons_zero, List.set_cons_succ]
        refine' wpAnyH_take (i := 16) (oi := ⟨_, _, _, _, _, _⟩) (v := _) rfl (by kernel_rfl) (by kernel_rfl) (by kernel_rfl) (fun _ _ _ h => h) (Or.inl ⟨by rfl, ?hyz3_16⟩) (by assumption) ?restz3_16
        case hyz3_16 => (intro w hSw; (try dsimp only at hSw); go_simp; try with_reducible rfl)
        try simp only [Act.put, List.setIfInBounds_toArray, List.set_cons_zero, List.set_cons_succ]
        refine wpAnyH_ready (rs := [17]) (by kernel_rfl) (by simp) ?_
        refine AllReadyH.cons (o := ⟨_, _, _, _, _, _⟩) rfl (fun K hK => ?_) AllReadyH.nil
        go_simp
        go_at_call 33
        refine (Bytes_calls Ax lx cx (fixedS bs) _ (Hrx.out.below (Later.bel LB)) Hnx.out Hfb.out (by omega)).mono ?_
        rintro e wC ⟨vC, rfl, hoC, hbC⟩
        have LC : Later w6 wC := Later.step LB hbC
        rw [Hlx.out] at hoC
        obtain ⟨aC, cC, rfl, _, hrC⟩ := own_rd hoC
        have cvC := conv_rd9 (c := cC) hrC hnf0
        rw [← Hsf.out] at cvC
        clear hoC hbC hrC
        refine hK.out _ _ (LC) (fun hHeldN => ?_)
        clear hK K hHeld
        have hHeld := hHeldN
        clear hHeldN
        try simp only [Act.put, List.setIfInBounds_toArray, List.set_cons_zero, List.set_cons_succ]
        refine wpAnyH_ready (rs := [18]) (by kernel_rfl) (by simp) ?_
        refine AllReadyH.cons (o := ⟨_, _, _, _, _, _⟩) rfl (fun K hK => ?_) AllReadyH.nil
        go_simp
        clear cvC
        refine hK.out _ _ (LC) (fun hHeldN => ?_)
        clear hK K hHeld
        have hHeld := hHeldN
        clear hHeldN
        try simp only [Act.put, List.setIfInBounds_toArray, List.set_cons_zero, List.set_cons_succ]
        refine' wpAnyH_take (i := 19) (oi := ⟨_, _, _, _, _, _⟩) (v := _) rfl (by kernel_rfl) (by kernel_rfl) (by kernel_rfl) (fun _ _ _ h => h) (Or.inl ⟨by rfl, ?hyz3_19⟩) (by assumption) ?restz3_19
        case hyz3_19 => (intro w hSw; (try dsimp only at hSw); go_simp; try with_reducible rfl)
        try simp only [Act.put, List.setIfInBounds_toArray, List.set_cons_zero, List.set_cons_succ]
        refine' wpAnyH_take (i := 20) (oi := ⟨_, _, _, _, _, _⟩) (v := _) rfl (by kernel_rfl) (by kernel_rfl) (by kernel_rfl) (fun _ _ _ h => h) (Or.inl ⟨by rfl, ?hyz3_20⟩) (by assumption) ?restz3_20
        case hyz3_20 => (intro w hSw; (try dsimp only at hSw); go_simp; try with_reducible rfl)
        try simp only [Act.put, List.setIfInBounds_toArray, List.set_cons_zero, List.set_cons_succ]
        refine' wpAnyH_take (i := 21) (oi := ⟨_, _, _, _, _, _⟩) (v := _) rfl (by kernel_rfl) (by kernel_rfl) (by kernel_rfl) (fun _ _ _ h => h) (Or.inl ⟨by rfl, ?hyz3_21⟩) (by assumption) ?restz3_21
        case hyz3_21 => (intro w hSw; (try dsimp only at hSw); go_simp; try with_reducible rfl)
        try simp only [Act.put, List.setIfInBounds_toArray, List.set_cons_zero, List.set_cons_succ]
        refine' wpAnyH_take (i := 22) (oi := ⟨_, _, _, _, _, _⟩) (v := _) rfl (by kernel_rfl) (by kernel_rfl) (by kernel_rfl) (fun _ _ _ h => h) (Or.inl ⟨by rfl, ?hyz3_22⟩) (by assumption) ?restz3_22
        case hyz3_22 => (intro w hSw; (try dsimp only at hSw); go_simp; try with_reducible rfl)
        try simp only [Act.put, List.setIfInBounds_toArray, List.set_cons_zero, List.set_cons_succ]
        refine' wpAnyH_take (i := 23) (oi := ⟨_, _, _, _, _, _⟩) (v := _) rfl (by kernel_rfl) (by kernel_rfl) (by kernel_rfl) (fun _ _ _ h => h) (Or.inl ⟨by rfl, ?hyz3_23⟩) (by assumption) ?restz3_23
        case hyz3_23 => (intro w hSw; (try dsimp only at hSw); go_simp; try with_reducible rfl)
        try simp only [Act.put, List.setIfInBounds_toArray, List.set_cons_zero, List.set_cons_succ]
        refine' wpAnyH_take (i := 24) (oi := ⟨_, _, _, _, _, _⟩) (v := _) rfl (by kernel_rfl) (by kernel_rfl) (by kernel_rfl) (fun _ _ _ h => h) (Or.inl ⟨by rfl, ?hyz3_24⟩) (by assumption) ?restz3_24
        case hyz3_24 => (intro w hSw; (try dsimp only at hSw); go_simp; try with_reducible rfl)
        try simp only [Act.put, List.setIfInBounds_toArray, List.set_cons_zero, List.set_cons_succ]
        refine' wpAnyH_take (i := 25) (oi := ⟨_, _, _, _, _, _⟩) (v := _) rfl (by kernel_rfl) (by kernel_rfl) (by kernel_rfl) (fun _ _ _ h => h) (Or.inl ⟨by rfl, ?hyz3_25⟩) (by assumption) ?restz3_25
        case hyz3_25 => (intro w hSw; (try dsimp only at hSw); go_simp; try with_reducible rfl)
        try simp only [Act.put, List.setIfInBounds_toArray, List.set_cons_zero, List.set_cons_succ]
        refine' wpAnyH_take (i := 26) (oi := ⟨_, _, _, _, _, _⟩) (v := _) rfl (by kernel_rfl) (by kernel_rfl) (by kernel_rfl) (fun _ _ _ h => h) (Or.inl ⟨by rfl, ?hyz3_26⟩) (by assumption) ?restz3_26
        case hyz3_26 => (intro w hSw; (try dsimp only at hSw); go_simp; try with_reducible rfl)
        try simp only [Act.put, List.setIfInBounds_toArray, List.set_cons_zero, List.set_cons_succ]
        refine' wpAnyH_take (i := 27) (oi := ⟨_, _, _, _, _, _⟩) (v := _) rfl (by kernel_rfl) (by kernel_rfl) (by kernel_rfl) (fun _ _ _ h => h) (Or.inl ⟨by rfl, ?hyz3_27⟩) (by assumption) ?restz3_27
        case hyz3_27 => (intro w hSw; (try dsimp only at hSw); go_simp; try with_reducible rfl)
        try simp only [Act.put, List.setIfInBounds_toArray, List.set_cons_zero, List.set_cons_succ]
        refine' wpAnyH_take (i := 28) (oi := ⟨_, _, _, _, _, _⟩) (v := _) rfl (by kernel_rfl) (by kernel_rfl) (by kernel_rfl) (fun _ _ _ h => h) (Or.inl ⟨by rfl, ?hyz3_28⟩) (by assumption) ?restz3_28
        case hyz3_28 => (intro w hSw; (try dsimp only at hSw); go_simp; try with_reducible rfl)
        try simp only [Act.put, List.setIfInBounds_toArray, List.set_cons_zero, List.set_cons_succ]
        refine' wpAnyH_take (i := 29) (oi := ⟨_, _, _, _, _, _⟩) (v := _) rfl (by kernel_rfl) (by kernel_rfl) (by kernel_rfl) (fun _ _ _ h => h) (Or.inl ⟨by rfl, ?hyz3_29⟩) (by assumption) ?restz3_29
        case hyz3_29 => (intro w hSw; (try dsimp only at hSw); go_simp; try with_reducible rfl)
        try simp only [Act.put, List.setIfInBounds_toArray, List.set_cons_zero, List.set_cons_succ]
        refine' wpAnyH_take (i := 30) (oi := ⟨_, _, _, _, _, _⟩) (v := _) rfl (by kernel_rfl) (by kernel_rfl) (by kernel_rfl) (fun _ _ _ h => h) (Or.inl ⟨by rfl, ?hyz3_30⟩) (by assumption) ?restz3_30
        case hyz3_30 => (intro w hSw; (try dsimp only at hSw); go_simp; try with_reducible rfl)
        try simp only [Act.put, List.setIfInBounds_toArray, List.set_cons_zero, List.set_cons_succ]
        refine wpAnyH_ready (rs := [31]) (by kernel_rfl) (by simp) ?_
        refine AllReadyH.cons (o := ⟨_, _, _, _, _, _⟩) rfl (fun K hK => ?_) AllReadyH.nil
        go_simp
        go_at_call 33
        refine (Bytes_calls Ay ly cy (dynS bs) _ (Hry.out.below (Later.bel LC)) Hny.out Hdb.out (by omega)).mono ?_
        rintro e wD ⟨vD, rfl, hoD, hbD⟩
        have LD : Later w6 wD := Later.step LC hbD
        rw [Hly.out] at hoD
        obtain ⟨aD, cD, rfl, _, hrD⟩ := own_rd hoD
        have cvD := conv_rd9 (c := cD) hrD hnd0
        rw [← Hsd.out] at cvD
        clear hoD hbD hrD
        refine hK.out _ _ (LD) (fun hHeldN => ?_)
        clear hK K hHeld
        have hHeld := hHeldN
        clear hHeldN
        try simp only [Act.put, List.setIfInBounds_toArray, List.set_cons_zero, List.set_cons_succ]
        refine wpAnyH_ready (rs := [32]) (by kernel_rfl) (by simp) ?_
        refine AllReadyH.cons (o := ⟨_, _, _, _, _, _⟩) rfl (fun K hK => ?_) AllReadyH.nil
        go_simp
        clear cvD
        refine hK.out _ _ (LD) (fun hHeldN => ?_)
        clear hK K hHeld
        have hHeld := hHeldN
        clear hHeldN
        try simp only [Act.put, List.setIfInBounds_toArray, List.set_cons_zero, List.set_cons_succ]
        refine' wpAnyH_take (i := 33) (oi := ⟨_, _, _, _, _, _⟩) (v := _) rfl (by kernel_rfl) (by kernel_rfl) (by kernel_rfl) (fun _ _ _ h => h) (Or.inl ⟨by rfl, ?hyz3_33⟩) (by assumption) ?restz3_33
        case hyz3_33 => (intro w hSw; (try dsimp only at hSw); go_simp; try with_reducible rfl)
        try simp only [Act.put, List.setIfInBounds_toArray, List.set_cons_zero, List.set_cons_succ]
        refine' wpAnyH_take (i := 34) (oi := ⟨_, _, _, _, _, _⟩) (v := _) rfl (by kernel_rfl) (by kernel_rfl) (by kernel_rfl) (fun _ _ _ h => h) (Or.inl ⟨by rfl, ?hyz3_34⟩) (by assumption) ?restz3_34
        case hyz3_34 => (intro w hSw; (try dsimp only at hSw); go_simp; try with_reducible rfl)
        try simp only [Act.put, List.setIfInBounds_toArray, List.set_cons_zero, List.set_cons_succ]
        refine' wpAnyH_take (i := 35) (oi := ⟨_, _, _, _, _, _⟩) (v := _) rfl (by kernel_rfl) (by kernel_rfl) (by kernel_rfl) (fun _ _ _ h => h) (Or.inl ⟨by rfl, ?hyz3_35⟩) (by assumption) ?restz3_35
        case hyz3_35 => (intro w hSw; (try dsimp only at hSw); go_simp; try with_reducible rfl)
        try simp only [Act.put, List.setIfInBounds_toArray, List.set_cons_zero, List.set_cons_succ]
        refine wpAnyH_done (by kernel_rfl) ?_ _
        refine NoPanic.normal ?_
        go_wp2
        go_ret
        exact ⟨rfl, HB6.out.trans ((Later.bel LD).mono HB6.out.size)⟩
  · go_wp2_with fail
    refine (awake9_calls _ (HT.out.below HB1.out) (fun j hj => kept_cell HB1.out (HO.out j hj))).mono ?_
    rintro e w2 ⟨rfl, hb2⟩
    have H2 := Lib.hid (below_seq HB1.out (Nat.le_refl _) hb2)
    clear hb2
    go_wp2
    go_ret
    exact ⟨rfl, H2.out⟩
end Go.Proofs.YtkjoncllnlmdgaaDoor
