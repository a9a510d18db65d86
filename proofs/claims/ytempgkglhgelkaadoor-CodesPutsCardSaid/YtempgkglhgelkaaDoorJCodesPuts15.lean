/-
  Texts joined into one file: CodesPuts.
-/
import Derived.Test.YtempgkglhgelkaaDoorJCodesPuts1
import Derived.Test.YtempgkglhgelkaaDoorJCodesPuts10
import Derived.Test.YtempgkglhgelkaaDoorJCodesPuts14
/-
  The walk of the law CodesPuts.
-/
namespace Go.Proofs.YtempgkglhgelkaaDoor
open Go.RowKit

theorem putS_len (xs ys : List Int) (hx : 257 ≤ xs.length) (hx2 : xs.length ≤ 286) (hy : 1 ≤ ys.length) (hy2 : ys.length ≤ 30) (h15 : ∀ j, 0 ≤ rd xs j ∧ rd xs j ≤ 15) (hy15 : ∀ j, 0 ≤ rd ys j ∧ rd ys j ≤ 15) : 14 ≤ (putS xs ys).length ∧ (putS xs ys).length ≤ 100000 := by
  have ta := tn_rng xs 257 (xs.length - 257)
  have tb := tn_rng ys 1 (ys.length - 1)
  have hok : ∀ it ∈ itsOf xs ys, ItemOk it := items_ok (fun j hj => by
    rcases Nat.lt_or_ge j (xs.take (tn xs 257 (xs.length - 257))).length with g | g
    · rw [rd_appL g]
      have e : rd (xs.take (tn xs 257 (xs.length - 257))) j = rd xs j := by
        rw [List.length_take] at g
        unfold rd
        rw [List.getD_eq_getElem?_getD, List.getD_eq_getElem?_getD, List.getElem?_take_of_lt (by omega)]
      rw [e]
      exact h15 j
    · obtain ⟨i, rfl⟩ : ∃ i, j = (xs.take (tn xs 257 (xs.length - 257))).length + i := ⟨j - (xs.take (tn xs 257 (xs.length - 257))).length, by omega⟩
      rw [rd_appR]
      rw [List.length_append] at hj
      have hj2 : i < (ys.take (tn ys 1 (ys.length - 1))).length := by omega
      have e : rd (ys.take (tn ys 1 (ys.length - 1))) i = rd ys i := by
        rw [List.length_take] at hj2
        unfold rd
        rw [List.getD_eq_getElem?_getD, List.getD_eq_getElem?_getD, List.getElem?_take_of_lt (by omega)]
      rw [e]
      exact hy15 i)
  have hl : (itsOf xs ys).length ≤ 400 := by
    have h1 := items_le (xs.take (tn xs 257 (xs.length - 257)) ++ ys.take (tn ys 1 (ys.length - 1)))
    rw [List.length_append, List.length_take, List.length_take] at h1
    unfold itsOf
    omega
  have hs : ∀ k, k < (itsOf xs ys).length → itS (itsOf xs ys) k ≤ 18 := fun k hk => (it_at hok hk).2.1
  have hm : manyOf (itsOf xs ys) ≤ 19 := (tn_rng _ 4 15).2
  have hb := bitsIt_length (lensIt (itsOf xs ys)) (itsOf xs ys) (lensIt_rng _ hs) (fun k hk => (it_at hok hk).2.2.1) _ (Nat.le_refl _)
  unfold putS headS
  simp only [List.length_append, lowOf_length, lows_length]
  omega
set_option maxHeartbeats 8000000 in
set_option maxRecDepth 100000 in
theorem CodesPuts_walk (a : Option Addr) (len cap : Nat) (zs : List Int) (a2 : Option Addr) (len2 cap2 : Nat) (zs2 : List Int) (w : World) (hz : IsRow .u8 w a len cap zs) (hlen : len * 1 ≤ 140737488351232) (hz2 : IsRow .u8 w a2 len2 cap2 zs2) (hlen2 : len2 * 1 ≤ 140737488351232) (hO : OrdAt w) :
    Calls Tryd.prog 10 #[.slice a len cap, .slice a2 len2 cap2] w fun e w' => e = .returned (.bool true) ∧ Below w.heap.size w w' := by
  obtain ⟨xs, hxs⟩ : ∃ xs, xs = zs.take len := ⟨_, rfl⟩
  obtain ⟨ys, hys⟩ : ∃ ys, ys = zs2.take len2 := ⟨_, rfl⟩
  have hX : Rd w .u8 a len xs := by rw [hxs]; exact hz.rd
  have hY : Rd w .u8 a2 len2 ys := by rw [hys]; exact hz2.rd
  have hx : ∀ j, j < len → 0 ≤ rd xs j ∧ rd xs j ≤ 255 := by rw [hxs]; exact hz.u8
  have hy : ∀ j, j < len2 → 0 ≤ rd ys j ∧ rd ys j ≤ 255 := by rw [hys]; exact hz2.u8
  have hog : 2 < w.heap.size := World.block_lt_of_cell? _ _ (hO 0 (by omega))
  have HX := Lib.hid hX
  have HY := Lib.hid hY
  have Hx := Lib.hid hx
  have Hy := Lib.hid hy
  have HO := Lib.hid hO
  have Hog := Lib.hid hog
  clear hxs hys hz hz2 hX hY hx hy hO hog
  go_enter Tryd.func10, Tryd.ntmps10
  go_wp2_with fail
  refine (awake8_calls _).mono ?_
  rintro e w1 ⟨rfl, hb1⟩
  have H1 := Lib.hid hb1
  have HX1 := Lib.hid (HX.out.below hb1)
  have HY1 := Lib.hid (HY.out.below hb1)
  have HO1 : Hid (OrdAt w1) := fun j hj => kept_cell hb1 (HO.out j hj)
  have hs1 := hb1.size
  clear hb1
  by_cases hl : len ≤ 500
  · by_cases hl2 : len2 ≤ 500
    · go_wp2_with fail
      refine (two8_calls a a2 len cap len2 cap2 xs ys _ HX1.out HY1.out Hx.out Hy.out (by omega) (by omega)).mono ?_
      rintro e w2 ⟨ga, gb, rfl, hra, hrb, hb2⟩
      have H2 := Lib.hid (below_seq H1.out (Nat.le_refl _) hb2)
      have HO2 : Hid (OrdAt w2) := fun j hj => kept_cell hb2 (HO1.out j hj)
      have hs2 := hb2.size
      obtain ⟨X, hXe⟩ : ∃ X, X = twoOf xs 286 := ⟨_, rfl⟩
      obtain ⟨Y, hYe⟩ : ∃ Y, Y = twoOf ys 30 := ⟨_, rfl⟩
      have hX15 : Hid (∀ j, 0 ≤ rd X j ∧ rd X j ≤ 15) := by rw [hXe]; exact twoOf_rng xs 286
      have hY15 : Hid (∀ j, 0 ≤ rd Y j ∧ rd Y j ≤ 15) := by rw [hYe]; exact twoOf_rng ys 30
      rw [← hXe] at hra
      rw [← hYe] at hrb
      have hXl : X.length = 286 := by rw [hXe]; exact twoOf_length _ _
      have hYl : Y.length = 30 := by rw [hYe]; exact twoOf_length _ _
      have Hra := Lib.hid hra
      have Hrb := Lib.hid hrb
      have hpl := putS_len X Y (by omega) (by omega) (by omega) (by omega) hX15.out hY15.out
      clear hXe hYe hra hrb hb2
      obtain ⟨B, hB⟩ : ∃ B, B = w2.heap.size := ⟨_, rfl⟩
      have hW0 : WrAt (w2.alloc (.cells #[.slice none 0 0, .int .i64 0] 65)) B w2.heap.size [] (.slice none 0 0) := ⟨heap_alloc_new w2 _, World.ownsRow_nil _ _ _ _, fun z hz => by cases hz⟩
      have HW0 := Lib.hid hW0
      have hba : Below w2.heap.size w2 (w2.alloc (.cells #[.slice none 0 0, .int .i64 0] 65)) := (Below.refl _ _).alloc (Nat.le_refl _) _
      have Hba := Lib.hid hba
      have HB := Lib.hid hB
      clear hW0 hba hB
      go_wp2_with fail
      refine (CPut_calls B w2.heap.size [] (.slice none 0 0) (some ⟨ga, 0, none⟩) (some ⟨gb, 0, none⟩) 286 286 30 30 X Y _ HW0.out (Hra.out.below Hba.out) (Hrb.out.below Hba.out) (by omega) (by omega) (by omega) (by omega) (by omega) (by omega) (fun j _ => hX15.out j) (fun j _ => hY15.out j) (fun j hj => kept_cell Hba.out (HO2.out j hj)) (by have := Hog.out; rw [HB.out]; omega) (by rw [HB.out]; exact Nat.le_refl _) (by rw [HB.out]; simp) (by simp)).mono ?_
      rintro e w3 ⟨v', rfl, hw3, hs3⟩
      rw [List.nil_append] at hw3
      obtain ⟨PS, hPS⟩ : ∃ PS, PS = putS X Y := ⟨_, rfl⟩
      rw [← hPS] at hw3 hpl
      have HPS := Lib.hid hPS
      have H3 := Lib.hid (below_seq H2.out (Nat.le_refl _) (Hba.out.trans (hs3.keepB HW0.out (by rw [HB.out]; exact Nat.le_refl _) (Nat.le_refl _) (by simp))))
      have Hw3 := Lib.hid hw3
      have Ra3 := Lib.hid ((Hra.out.below Hba.out).frW hs3.fr (fun b o e s hs e2 => ?_))
      have Rb3 := Lib.hid ((Hrb.out.below Hba.out).frW hs3.fr (fun b o e s hs e2 => ?_))
      rotate_left
      · subst e2
        cases e
        simp [Value.ownBlock] at hs
        obtain ⟨_, _, e5, hc5⟩ := Hrb.out.2 (by omega)
        cases e5
        have h55 := World.block_lt_of_cell? _ _ (hc5 0 (by omega))
        exact absurd hs (Nat.ne_of_lt h55)
      · subst e2
        cases e
        simp [Value.ownBlock] at hs
        obtain ⟨_, _, e5, hc5⟩ := Hra.out.2 (by omega)
        cases e5
        have h55 := World.block_lt_of_cell? _ _ (hc5 0 (by omega))
        exact absurd hs (Nat.ne_of_lt h55)
      clear hPS hw3 hs3
      go_wp2_with fail
      refine (refPut_calls (some ⟨ga, 0, none⟩) (some ⟨gb, 0, none⟩) 286 286 30 30 X Y _ Ra3.out Rb3.out (by omega) (by omega) (by omega) (by omega) (by omega) (by omega) (fun j _ => hX15.out j) (fun j _ => hY15.out j)).mono ?_
      rintro e wr ⟨v5, rfl, ho5, hb5⟩
      rw [← HPS.out] at ho5
      obtain ⟨a5, c5, rfl, _, hr5⟩ := own_rd ho5
      have Hn5 := Lib.hid (own_none ho5)
      have Hr5 := Lib.hid hr5
      have HWr := Lib.hid (Hw3.out.below hb5)
      have HW5 := Lib.hid (below_seq H3.out (Nat.le_refl _) hb5)
      obtain ⟨lP, hlp⟩ : ∃ lP, PS.length = lP := ⟨_, rfl⟩
      rw [hlp] at Hr5 hpl Hn5 ⊢
      have Hlp := Lib.hid hlp
      obtain ⟨h, hh⟩ : ∃ h, h = w2.heap.size := ⟨_, rfl⟩
      rw [← hh] at HWr ⊢
      have L0 : Later wr wr.drew := (Later.refl wr).drew
      clear ho5 hr5 hb5 hlp hh Ra3 Rb3 Hra Hrb HW0 Hba
      go_upto_region 7 with fail
      refine wp_region_last (n := 12) (on := ⟨_, _, _, _, _, _⟩) (S := fun W => Later wr W) (by kernel_rfl) rfl (by kernel_rfl) (L0) (fun hHeld => ?_)
      refine' wpAnyH_take (i := 1) (oi := ⟨_, _, _, _, _, _⟩) (v := _) rfl (by kernel_rfl) (by kernel_rfl) (by kernel_rfl) (fun _ _ _ h => h) (Or.inl ⟨by rfl, ?hya1⟩) (by assumption) ?resta1
      case hya1 => (intro w hSw; (try dsimp only at hSw); go_simp; try with_reducible rfl)
      try simp only [Act.put, List.setIfInBounds_toArray, List.set_cons_zero, List.set_cons_succ]
      refine' wpAnyH_take (i := 2) (oi := ⟨_, _, _, _, _, _⟩) (v := _) rfl (by kernel_rfl) (by kernel_rfl) (by kernel_rfl) (fun _ _ _ h => h) (Or.inl ⟨by rfl, ?hya2⟩) (by assumption) ?resta2
      case hya2 => (intro w hSw; (try dsimp only at hSw); go_simp; try with_reducible rfl)
      try simp only [Act.put, List.setIfInBounds_toArray, List.set_cons_zero, List.set_cons_succ]
      refine wpAnyH_ready (rs := [0]) (by kernel_rfl) (by simp) ?_
      refine AllReadyH.cons (o := ⟨_, _, _, _, _, _⟩) rfl (fun K hK => ?_) AllReadyH.nil
      go_simp
      go_at_call 35
      refine (WLen_calls B h PS v' _ (HWr.out.below (Later.bel L0)) (by rw [Hlp.out]; omega)).mono ?_
      rintro e w1' ⟨rfl, hb1'⟩
      rw [Hlp.out]
      have L1 : Later wr w1' := Later.step L0 hb1'
      clear hb1'
      refine hK.out _ _ (L1) (fun hHeldN => ?_)
      clear hK K hHeld
      have hHeld := hHeldN
      clear hHeldN
      try simp only [Act.put, List.setIfInBounds_toArray, List.set_cons_zero, List.set_cons_succ]
      refine' wpAnyH_take (i := 3) (oi := ⟨_, _, _, _, _, _⟩) (v := _) rfl (by kernel_rfl) (by kernel_rfl) (by kernel_rfl) (fun _ _ _ h => h) (Or.inl ⟨by rfl, ?hya3⟩) (by assumption) ?resta3
      case hya3 => (intro w hSw; (try dsimp only at hSw); go_simp; try with_reducible rfl)
      try simp only [Act.put, List.setIfInBounds_toArray, List.set_cons_zero, List.set_cons_succ]
      refine' wpAnyH_take (i := 4) (oi := ⟨_, _, _, _, _, _⟩) (v := _) rfl (by kernel_rfl) (by kernel_rfl) (by kernel_rfl) (fun _ _ _ h => h) (Or.inl ⟨by rfl, ?hya4⟩) (by assumption) ?resta4
      case hya4 => (intro w hSw; (try dsimp only at hSw); go_simp; try with_reducible rfl)
      try simp only [Act.put, List.setIfInBounds_toArray, List.set_cons_zero, List.set_cons_succ]
      refine' wpAnyH_take (i := 7) (oi := ⟨_, _, _, _, _, _⟩) (v := _) rfl (by kernel_rfl) (by kernel_rfl) (by kernel_rfl) (fun _ _ _ h => h) (Or.inl ⟨by rfl, ?hya7⟩) (by assumption) ?resta7
      case hya7 => (intro w hSw; (try dsimp only at hSw); go_simp; try with_reducible rfl)
      try simp only [Act.put, List.setIfInBounds_toArray, List.set_cons_zero, List.set_cons_succ]
      refine wpAnyH_ready (rs := [5]) (by kernel_rfl) (by simp) ?_
      refine AllReadyH.cons (o := ⟨_, _, _, _, _, _⟩) rfl (fun K hK => ?_) AllReadyH.nil
      go_simp
      go_at_call 36
      refine (WBytes_calls B h PS v' _ (HWr.out.below (Later.bel L1)) (by rw [Hlp.out]; omega)).mono ?_
      rintro e wA ⟨vA, rfl, hoA, hbA⟩
      have LA : Later wr wA := Later.step L1 hbA
      obtain ⟨aA, cA, rfl, _, hrA⟩ := own_rd hoA
      have HrA := Lib.hid hrA
      clear hrA hoA hbA
      refine hK.out _ _ (LA) (fun hHeldN => ?_)
      clear hK K hHeld
      have hHeld := hHeldN
      clear hHeldN
      try simp only [Act.put, List.setIfInBounds_toArray, List.set_cons_zero, List.set_cons_succ]
      refine wpAnyH_ready (rs := [6, 8]) (by kernel_rfl) (by simp) ?_
      refine AllReadyH.cons (o := ⟨_, _, _, _, _, _⟩) rfl (fun K hK => ?_) (AllReadyH.cons (o := ⟨_, _, _, _, _, _⟩) rfl (fun K hK => ?_) AllReadyH.nil)
      · have cv := conv_rd (c := cA) HrA.out (by have := Hlp.out; omega)
        go_simp
        clear cv
        refine hK.out _ _ (LA) (fun hHeldN => ?_)
        clear hK K hHeld
        have hHeld := hHeldN
        clear hHeldN
        try simp only [Act.put, List.setIfInBounds_toArray, List.set_cons_zero, List.set_cons_succ]
        refine wpAnyH_ready (rs := [8]) (by kernel_rfl) (by simp) ?_
        refine AllReadyH.cons (o := ⟨_, _, _, _, _, _⟩) rfl (fun K hK => ?_) AllReadyH.nil
        go_simp
        go_at_call 37
        refine (Bytes_calls a5 lP c5 PS _ (Rd.below Hr5.out (Later.bel LA)) Hn5.out HWr.out.bit (by omega)).mono ?_
        rintro e wB ⟨vB, rfl, hoB, hbB⟩
        have LB : Later wr wB := Later.step LA hbB
        obtain ⟨aB, cB, rfl, _, hrB⟩ := own_rd hoB
        have HrB := Lib.hid hrB
        have HrA' := Lib.hid (HrA.out.below hbB)
        clear hrB hoB hbB
        refine hK.out _ _ (LB) (fun hHeldN => ?_)
        clear hK K hHeld
        have hHeld := hHeldN
        clear hHeldN
        try simp only [Act.put, List.setIfInBounds_toArray, List.set_cons_zero, List.set_cons_succ]
        refine wpAnyH_ready (rs := [9]) (by kernel_rfl) (by simp) ?_
        refine AllReadyH.cons (o := ⟨_, _, _, _, _, _⟩) rfl (fun K hK => ?_) AllReadyH.nil
        have cv := conv_rd (c := cB) HrB.out (by have := Hlp.out; omega)
        go_simp
        clear cv
        refine hK.out _ _ (LB) (fun hHeldN => ?_)
        clear hK K hHeld
        have hHeld := hHeldN
        clear hHeldN
        try simp only [Act.put, List.setIfInBounds_toArray, List.set_cons_zero, List.set_cons_succ]
        refine' wpAnyH_take (i := 10) (oi := ⟨_, _, _, _, _, _⟩) (v := _) rfl (by kernel_rfl) (by kernel_rfl) (by kernel_rfl) (fun _ _ _ h => h) (Or.inl ⟨by rfl, ?hyz1_10⟩) (by assumption) ?restz1_10
        case hyz1_10 => (intro w hSw; (try dsimp only at hSw); go_simp; try with_reducible rfl)
        try simp only [Act.put, List.setIfInBounds_toArray, List.set_cons_zero, List.set_cons_succ]
        refine' wpAnyH_take (i := 11) (oi := ⟨_, _, _, _, _, _⟩) (v := _) rfl (by kernel_rfl) (by kernel_rfl) (by kernel_rfl) (fun _ _ _ h => h) (Or.inl ⟨by rfl, ?hyz1_11⟩) (by assumption) ?restz1_11
        case hyz1_11 => (intro w hSw; (try dsimp only at hSw); go_simp; try with_reducible rfl)
        try simp only [Act.put, List.setIfInBounds_toArray, List.set_cons_zero, List.set_cons_succ]
        refine wpAnyH_done (by kernel_rfl) ?_ _
        change wpList _ _ _ _ _ _
        go_wp2
        go_ret
        exact ⟨rfl, below_seq HW5.out (Nat.le_refl _) (Later.bel LB)⟩
      · go_simp
        go_at_call 37
        refine (Bytes_calls a5 lP c5 PS _ (Rd.below Hr5.out (Later.bel LA)) Hn5.out HWr.out.bit (by omega)).mono ?_
        rintro e wB ⟨vB, rfl, hoB, hbB⟩
        have LB : Later wr wB := Later.step LA hbB
        obtain ⟨aB, cB, rfl, _, hrB⟩ := own_rd hoB
        have HrB := Lib.hid hrB
        have HrA' := Lib.hid (HrA.out.below hbB)
        clear hrB hoB hbB
        refine hK.out _ _ (LB) (fun hHeldN => ?_)
        clear hK K hHeld
        have hHeld := hHeldN
        clear hHeldN
        try simp only [Act.put, List.setIfInBounds_toArray, List.set_cons_zero, List.set_cons_succ]
        refine wpAnyH_ready (rs := [6, 9]) (by kernel_rfl) (by simp) ?_
        refine AllReadyH.cons (o := ⟨_, _, _, _, _, _⟩) rfl (fun K hK => ?_) (AllReadyH.cons (o := ⟨_, _, _, _, _, _⟩) rfl (fun K hK => ?_) AllReadyH.nil)
        · have cv := conv_rd (c := cA) HrA'.out (by have := Hlp.out; omega)
          go_simp
          clear cv
          refine hK.out _ _ (LB) (fun hHeldN => ?_)
          clear hK K hHeld
          have hHeld := hHeldN
          clear hHeldN
          try simp only [Act.put, List.setIfInBounds_toArray, List.set_cons_zero, List.set_cons_succ]
          refine wpAnyH_ready (rs := [9]) (by kernel_rfl) (by simp) ?_
          refine AllReadyH.cons (o := ⟨_, _, _, _, _, _⟩) rfl (fun K hK => ?_) AllReadyH.nil
          have cv := conv_rd (c := cB) HrB.out (by have := Hlp.out; omega)
          go_simp
          clear cv
          refine hK.out _ _ (LB) (fun hHeldN => ?_)
          clear hK K hHeld
          have hHeld := hHeldN
          clear hHeldN
          try simp only [Act.put, List.setIfInBounds_toArray, List.set_cons_zero, List.set_cons_succ]
          refine' wpAnyH_take (i := 10) (oi := ⟨_, _, _, _, _, _⟩) (v := _) rfl (by kernel_rfl) (by kernel_rfl) (by kernel_rfl) (fun _ _ _ h => h) (Or.inl ⟨by rfl, ?hyz2_10⟩) (by assumption) ?restz2_10
          case hyz2_10 => (intro w hSw; (try dsimp only at hSw); go_simp; try with_reducible rfl)
          try simp only [Act.put, List.setIfInBounds_toArray, List.set_cons_zero, List.set_cons_succ]
          refine' wpAnyH_take (i := 11) (oi := ⟨_, _, _, _, _, _⟩) (v := _) rfl (by kernel_rfl) (by kernel_rfl) (by kernel_rfl) (fun _ _ _ h => h) (Or.inl ⟨by rfl, ?hyz2_11⟩) (by assumption) ?restz2_11
          case hyz2_11 => (intro w hSw; (try dsimp only at hSw); go_simp; try with_reducible rfl)
          try simp only [Act.put, List.setIfInBounds_toArray, List.set_cons_zero, List.set_cons_succ]
          refine wpAnyH_done (by kernel_rfl) ?_ _
          change wpList _ _ _ _ _ _
          go_wp2
          go_ret
          exact ⟨rfl, below_seq HW5.out (Nat.le_refl _) (Later.bel LB)⟩
        · have cv := conv_rd (c := cB) HrB.out (by have := Hlp.out; omega)
          go_simp
          clear cv
          refine hK.out _ _ (LB) (fun hHeldN => ?_)
          clear hK K hHeld
          have hHeld := hHeldN
          clear hHeldN
          try simp only [Act.put, List.setIfInBounds_toArray, List.set_cons_zero, List.set_cons_succ]
          refine wpAnyH_ready (rs := [6]) (by kernel_rfl) (by simp) ?_
          refine AllReadyH.cons (o := ⟨_, _, _, _, _, _⟩) rfl (fun K hK => ?_) AllReadyH.nil
          have cv := conv_rd (c := cA) HrA'.out (by have := Hlp.out; omega)
          go_simp
          clear cv
          refine hK.out _ _ (LB) (fun hHeldN => ?_)
          clear hK K hHeld
          have hHeld := hHeldN
          clear hHeldN
          try simp only [Act.put, List.setIfInBounds_toArray, List.set_cons_zero, List.set_cons_succ]
          refine' wpAnyH_take (i := 10) (oi := ⟨_, _, _, _, _, _⟩) (v := _) rfl (by kernel_rfl) (by kernel_rfl) (by kernel_rfl) (fun _ _ _ h => h) (Or.inl ⟨by rfl, ?hyz3_10⟩) (by assumption) ?restz3_10
          case hyz3_10 => (intro w hSw; (try dsimp only at hSw); go_simp; try with_reducible rfl)
          try simp only [Act.put, List.setIfInBounds_toArray, List.set_cons_zero, List.set_cons_succ]
          refine' wpAnyH_take (i := 11) (oi := ⟨_, _, _, _, _, _⟩) (v := _) rfl (by kernel_rfl) (by kernel_rfl) (by kernel_rfl) (fun _ _ _ h => h) (Or.inl ⟨by rfl, ?hyz3_11⟩) (by assumption) ?restz3_11
          case hyz3_11 => (intro w hSw; (try dsimp only at hSw); go_simp; try with_reducible rfl)
          try simp only [Act.put, List.setIfInBounds_toArray, List.set_cons_zero, List.set_cons_succ]
          refine wpAnyH_done (by kernel_rfl) ?_ _
          change wpList _ _ _ _ _ _
          go_wp2
          go_ret
          exact ⟨rfl, below_seq HW5.out (Nat.le_refl _) (Later.bel LB)⟩
    · go_wp2_with fail
      refine (awake8_calls _).mono ?_
      rintro e w2 ⟨rfl, hb2⟩
      have H2 := Lib.hid (below_seq H1.out (Nat.le_refl _) hb2)
      clear hb2
      go_wp2
      go_ret
      exact ⟨rfl, H2.out⟩
  · go_wp2_with fail
    refine (awake8_calls _).mono ?_
    rintro e w2 ⟨rfl, hb2⟩
    have H2 := Lib.hid (below_seq H1.out (Nat.le_refl _) hb2)
    clear hb2
    go_wp2
    go_ret
    exact ⟨rfl, H2.out⟩
end Go.Proofs.YtempgkglhgelkaaDoor
