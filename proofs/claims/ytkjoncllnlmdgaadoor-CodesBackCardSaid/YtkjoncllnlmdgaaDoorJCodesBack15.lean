/-
  Texts joined into one file: CodesBack.
-/
import Derived.Test.YtkjoncllnlmdgaaDoorJCodesBack2
import Derived.Test.YtkjoncllnlmdgaaDoorJCodesBack11
import Derived.Test.YtkjoncllnlmdgaaDoorJCodesBack14
/-
  The walk of the law CodesBack.
-/
namespace Go.Proofs.YtkjoncllnlmdgaaDoor
open Go.RowKit

theorem rd_lt {w : World} {k : IntKind} {g n : Nat} {xs : List Int} (h : Rd w k (some ⟨g, 0, none⟩) n xs) (hn : 0 < n) : g < w.heap.size := by
  obtain ⟨_, _, e, hc⟩ := h.2 hn
  cases e
  exact World.block_lt_of_cell? _ _ (hc 0 hn)
theorem putS_len (xs ys : List Int) (hx : 257 ≤ xs.length) (hx2 : xs.length ≤ 286) (hy : 1 ≤ ys.length) (hy2 : ys.length ≤ 30) (h15 : ∀ j, 0 ≤ rd xs j ∧ rd xs j ≤ 15) (hy15 : ∀ j, 0 ≤ rd ys j ∧ rd ys j ≤ 15) : 14 ≤ (putS xs ys).length ∧ (putS xs ys).length ≤ 100000 := by
  have ta := tn_rng xs 257 (xs.length - 257)
  have tb := tn_rng ys 1 (ys.length - 1)
  have hok : ∀ it ∈ itsOf xs ys, ItemOk it := items_ok (fun j hj => by
    rcases Nat.lt_or_ge j (xs.take (tn xs 257 (xs.length - 257))).length with g | g
    · rw [rd_appL g]
      have e : rd (xs.take (tn xs 257 (xs.length - 257))) j = rd xs j := by
        rw [List.length_take] at g
        unfold rd
        rw [List.getD_eq_getElem?_getD, List.getD_eq_getElem?_getD, List.getElem?_take_of_lt (by omega)]
      rw [e]
      exact h15 j
    · obtain ⟨i, rfl⟩ : ∃ i, j = (xs.take (tn xs 257 (xs.length - 257))).length + i := ⟨j - (xs.take (tn xs 257 (xs.length - 257))).length, by omega⟩
      rw [rd_appR]
      rw [List.length_append] at hj
      have hj2 : i < (ys.take (tn ys 1 (ys.length - 1))).length := by omega
      have e : rd (ys.take (tn ys 1 (ys.length - 1))) i = rd ys i := by
        rw [List.length_take] at hj2
        unfold rd
        rw [List.getD_eq_getElem?_getD, List.getD_eq_getElem?_getD, List.getElem?_take_of_lt (by omega)]
      rw [e]
      exact hy15 i)
  have hl : (itsOf xs ys).length ≤ 400 := by
    have h1 := items_le (xs.take (tn xs 257 (xs.length - 257)) ++ ys.take (tn ys 1 (ys.length - 1)))
    rw [List.length_append, List.length_take, List.length_take] at h1
    unfold itsOf
    omega
  have hs : ∀ k, k < (itsOf xs ys).length → itS (itsOf xs ys) k ≤ 18 := fun k hk => (it_at hok hk).2.1
  have hm : manyOf (itsOf xs ys) ≤ 19 := (tn_rng _ 4 15).2
  have hb := bitsIt_length (lensIt (itsOf xs ys)) (itsOf xs ys) (lensIt_rng _ hs) (fun k hk => (it_at hok hk).2.2.1) _ (Nat.le_refl _)
  unfold putS headS
  simp only [List.length_append, lowOf_length, lows_length]
  omega
set_option maxHeartbeats 8000000 in
set_option maxRecDepth 100000 in
theorem CodesBack_walk (a : Option Addr) (len cap : Nat) (zs : List Int) (a2 : Option Addr) (len2 cap2 : Nat) (zs2 : List Int) (w : World) (hz : IsRow .u8 w a len cap zs) (hlen : len * 1 ≤ 140737488351232) (hz2 : IsRow .u8 w a2 len2 cap2 zs2) (hlen2 : len2 * 1 ≤ 140737488351232) (hO : OrdAt w) :
    Calls Tryd.prog 4 #[.slice a len cap, .slice a2 len2 cap2] w fun e w' => e = .returned (.bool true) ∧ Below w.heap.size w w' := by
  obtain ⟨xs, hxs⟩ : ∃ xs, xs = zs.take len := ⟨_, rfl⟩
  obtain ⟨ys, hys⟩ : ∃ ys, ys = zs2.take len2 := ⟨_, rfl⟩
  have hX : Rd w .u8 a len xs := by rw [hxs]; exact hz.rd
  have hY : Rd w .u8 a2 len2 ys := by rw [hys]; exact hz2.rd
  have hx : ∀ j, j < len → 0 ≤ rd xs j ∧ rd xs j ≤ 255 := by rw [hxs]; exact hz.u8
  have hy : ∀ j, j < len2 → 0 ≤ rd ys j ∧ rd ys j ≤ 255 := by rw [hys]; exact hz2.u8
  have hog : 0 < w.heap.size := World.block_lt_of_cell? _ _ (hO 0 (by omega))
  have HX := Lib.hid hX
  have HY := Lib.hid hY
  have Hx := Lib.hid hx
  have Hy := Lib.hid hy
  have HO := Lib.hid hO
  have Hog := Lib.hid hog
  clear hxs hys hz hz2 hX hY hx hy hO hog
  go_enter Tryd.func4, Tryd.ntmps4
  go_wp2_with fail
  refine (awake8_calls _).mono ?_
  rintro e w1 ⟨rfl, hb1⟩
  have H1 := Lib.hid hb1
  have HX1 := Lib.hid (HX.out.below hb1)
  have HY1 := Lib.hid (HY.out.below hb1)
  have HO1 : Hid (OrdAt w1) := fun j hj => kept_cell hb1 (HO.out j hj)
  have hs1 := hb1.size
  clear hb1
  by_cases hl : len ≤ 500
  · by_cases hl2 : len2 ≤ 500
    · go_wp2_with fail
      refine (two8_calls a a2 len cap len2 cap2 xs ys _ HX1.out HY1.out Hx.out Hy.out (by omega) (by omega)).mono ?_
      rintro e w2 ⟨ga, gb, rfl, hra, hrb, hb2⟩
      have H2 := Lib.hid (below_seq H1.out (Nat.le_refl _) hb2)
      have HO2 : Hid (OrdAt w2) := fun j hj => kept_cell hb2 (HO1.out j hj)
      have hs2 := hb2.size
      obtain ⟨X, hXe⟩ : ∃ X, X = twoOf xs 286 := ⟨_, rfl⟩
      obtain ⟨Y, hYe⟩ : ∃ Y, Y = twoOf ys 30 := ⟨_, rfl⟩
      have hX15 : Hid (∀ j, 0 ≤ rd X j ∧ rd X j ≤ 15) := by rw [hXe]; exact twoOf_rng xs 286
      have hY15 : Hid (∀ j, 0 ≤ rd Y j ∧ rd Y j ≤ 15) := by rw [hYe]; exact twoOf_rng ys 30
      rw [← hXe] at hra
      rw [← hYe] at hrb
      have hXl : X.length = 286 := by rw [hXe]; exact twoOf_length _ _
      have hYl : Y.length = 30 := by rw [hYe]; exact twoOf_length _ _
      have Hra := Lib.hid hra
      have Hrb := Lib.hid hrb
      have hpl := putS_len X Y (by omega) (by omega) (by omega) (by omega) hX15.out hY15.out
      clear hXe hYe hra hrb hb2
      obtain ⟨B, hB⟩ : ∃ B, B = w2.heap.size := ⟨_, rfl⟩
      have hW0 : WrAt (w2.alloc (.cells #[.slice none 0 0, .int .i64 0] 38)) B w2.heap.size [] (.slice none 0 0) := ⟨heap_alloc_new w2 _, World.ownsRow_nil _ _ _ _, fun z hz => by cases hz⟩
      have HW0 := Lib.hid hW0
      have hba : Below w2.heap.size w2 (w2.alloc (.cells #[.slice none 0 0, .int .i64 0] 38)) := (Below.refl _ _).alloc (Nat.le_refl _) _
      have Hba := Lib.hid hba
      have HB := Lib.hid hB
      clear hW0 hba hB
      go_wp2_with fail
      refine (CPut_calls B w2.heap.size [] (.slice none 0 0) (some ⟨ga, 0, none⟩) (some ⟨gb, 0, none⟩) 286 286 30 30 X Y _ HW0.out (Hra.out.below Hba.out) (Hrb.out.below Hba.out) (by omega) (by omega) (by omega) (by omega) (by omega) (by omega) (fun j _ => hX15.out j) (fun j _ => hY15.out j) (fun j hj => kept_cell Hba.out (HO2.out j hj)) (by have := Hog.out; rw [HB.out]; omega) (by rw [HB.out]; exact Nat.le_refl _) (by rw [HB.out]; simp) (by simp)).mono ?_
      rintro e w3 ⟨v', rfl, hw3, hs3⟩
      rw [List.nil_append] at hw3
      obtain ⟨PS, hPS⟩ : ∃ PS, PS = putS X Y := ⟨_, rfl⟩
      rw [← hPS] at hw3 hpl
      have HPS := Lib.hid hPS
      have H3 := Lib.hid (below_seq H2.out (Nat.le_refl _) (Hba.out.trans (hs3.keepB HW0.out (by rw [HB.out]; exact Nat.le_refl _) (Nat.le_refl _) (by simp))))
      have Hw3 := Lib.hid hw3
      have Ra3 := Lib.hid ((Hra.out.below Hba.out).frW hs3.fr (fun b o e s hs e2 => ?_))
      have Rb3 := Lib.hid ((Hrb.out.below Hba.out).frW hs3.fr (fun b o e s hs e2 => ?_))
      rotate_left
      · subst e2
        cases e
        simp [Value.ownBlock] at hs
        obtain ⟨_, _, e5, hc5⟩ := Hrb.out.2 (by omega)
        cases e5
        have h55 := World.block_lt_of_cell? _ _ (hc5 0 (by omega))
        exact absurd hs (Nat.ne_of_lt h55)
      · subst e2
        cases e
        simp [Value.ownBlock] at hs
        obtain ⟨_, _, e5, hc5⟩ := Hra.out.2 (by omega)
        cases e5
        have h55 := World.block_lt_of_cell? _ _ (hc5 0 (by omega))
        exact absurd hs (Nat.ne_of_lt h55)
      clear hPS hw3 hs3
      obtain ⟨lP, hlp⟩ : ∃ lP, PS.length = lP := ⟨_, rfl⟩
      rw [hlp] at hpl
      have Hlp := Lib.hid hlp
      have hga := rd_lt Ra3.out (by omega)
      have hgb := rd_lt Rb3.out (by omega)
      obtain ⟨h, hh⟩ : ∃ h, h = w2.heap.size := ⟨_, rfl⟩
      rw [← hh] at Hw3 ⊢
      clear hlp hh Hra Hrb HW0 Hba
      go_wp2_with fail
      refine (WLen_calls B h PS v' _ Hw3.out (by rw [Hlp.out]; omega)).mono ?_
      rintro e w4 ⟨rfl, hb4⟩
      rw [Hlp.out]
      have Hw4 := Lib.hid (Hw3.out.below hb4)
      have H4 := Lib.hid (below_seq H3.out (Nat.le_refl _) hb4)
      have Ra4 := Lib.hid (Ra3.out.below hb4)
      have Rb4 := Lib.hid (Rb3.out.below hb4)
      have hs4 := hb4.size
      clear hb4
      go_wp2_with fail
      refine (WBytes_calls B h PS v' _ Hw4.out (by rw [Hlp.out]; omega)).mono ?_
      rintro e w5 ⟨v5, rfl, ho5, hb5⟩
      have H5 := Lib.hid (below_seq H4.out (Nat.le_refl _) hb5)
      have Ra5 := Lib.hid (Ra4.out.below hb5)
      have Rb5 := Lib.hid (Rb4.out.below hb5)
      have hs5 := hb5.size
      obtain ⟨a5, c5, rfl, _, hr5⟩ := own_rd ho5
      have hnn5 := own_none ho5
      obtain ⟨bs, hbs⟩ : ∃ bs, bs = packB PS := ⟨_, rfl⟩
      have hbb : ∀ j, j < (PS.length + 7) / 8 → 0 ≤ rd bs j ∧ rd bs j ≤ 255 := fun j hj => by rw [hbs]; exact packB_byte Hw4.out.bit j hj
      have hat : BitsAt bs 0 PS := by rw [hbs]; exact bitsAt_pack Hw4.out.bit
      rw [← hbs] at hr5
      have hgs := getS_put (T := 8 * ((PS.length + 7) / 8)) (X := X) (Y := Y) (bs := bs) (p := 0) (by omega) (by omega) (by omega) (by omega) hX15.out hY15.out (by rw [← HPS.out]; exact hat) (by rw [← HPS.out]; omega)
      rw [← HPS.out, Hlp.out, Nat.zero_add] at hgs
      obtain ⟨lB, hlB⟩ : ∃ lB, lB = (lP + 7) / 8 := ⟨_, rfl⟩
      rw [Hlp.out, ← hlB] at hbb hr5 hnn5
      rw [Hlp.out, ← hlB]
      rw [← hlB] at hgs
      have hlB2 : lB ≤ 20000 := by omega
      have hlB3 : lP ≤ 8 * lB := by omega
      have hA5 : a5 = none → lB = 0 ∧ c5 = 0 := fun e => by
        obtain ⟨_, _, e2, _⟩ := hr5.2 (by omega)
        rw [e] at e2
        cases e2
      have Hr5 := Lib.hid hr5
      have Hbb := Lib.hid hbb
      have Hgs := Lib.hid hgs
      have HA5 := Lib.hid hA5
      have ta := tn_rng X 257 (X.length - 257)
      have tb := tn_rng Y 1 (Y.length - 1)
      have toa := tn_out X 257 (X.length - 257)
      have tob := tn_out Y 1 (Y.length - 1)
      rw [hXl] at ta toa
      rw [hYl] at tb tob
      obtain ⟨na, hna⟩ : ∃ na, tn X 257 (X.length - 257) = na := ⟨_, rfl⟩
      obtain ⟨nb, hnb⟩ : ∃ nb, tn Y 1 (Y.length - 1) = nb := ⟨_, rfl⟩
      rw [← hXl, hna] at ta toa
      rw [← hYl, hnb] at tb tob
      rw [hXl] at ta toa
      rw [hYl] at tb tob
      rw [hna, hnb] at Hgs
      have Toa := Lib.hid toa
      have Tob := Lib.hid tob
      have Hog5 : Hid (OrdAt w5) := Lib.hid (fun j hj => kept_cell H5.out (HO.out j hj))
      clear hlB hbs hbb hat hgs hA5 hr5 hb5 ho5 hna hnb toa tob hnn5
      go_wp2_with fail
      refine (BNew_calls a5 lB c5 bs _ Hr5.out HA5.out (by omega)).mono ?_
      rintro e w6 ⟨r, Bk, c, rfl, hr6, hrd, hrow, hb6⟩
      have H6 := Lib.hid (below_seq H5.out (Nat.le_refl _) hb6)
      have Ra6 := Lib.hid (Ra5.out.below hb6)
      have Rb6 := Lib.hid (Rb5.out.below hb6)
      have HO6 : Hid (OrdAt w6) := Lib.hid (fun j hj => kept_cell hb6 (Hog5.out j hj))
      have hs6 := hb6.size
      have hor : 0 ≠ r := by have := Hog.out; omega
      have hneB : ∀ b o, Bk = some ⟨b, o, none⟩ → b ≠ r := fun b o e e2 => by
        subst e e2
        exact own_ne hrd (by decide) hrow rfl
      obtain ⟨B', c', e4, _, hbr⟩ := own_rd hrow
      cases e4
      have HneB := Lib.hid hneB
      have Hor := Lib.hid hor
      have Hrd6 := Lib.hid hrd
      have Hbr6 := Lib.hid hbr
      clear hneB hrd hbr hrow hb6 hor
      go_wp2_with fail
      refine (Get_calls r Bk lB c 0 bs _ HO6.out Hor.out Hrd6.out Hbr6.out Hbb.out HneB.out (by omega) (by omega)).mono ?_
      rintro e w7 ⟨hx, hg7⟩
      have hszA := H5.out.size
      have H7 := Lib.hid (H6.out.grown hg7 H6.out.size (fun k hk => by cases hk; omega))
      have Ra7 := Lib.hid (Ra6.out.grown hg7 (fun b o e => by cases e; omega))
      have Rb7 := Lib.hid (Rb6.out.grown hg7 (fun b o e => by cases e; omega))
      have hs7 := hg7.size
      clear hg7
      obtain ⟨_, _, e256, hc256⟩ := Ra7.out.2 (by omega)
      cases e256
      have z := hc256 256 (by omega)
      clear hc256
      obtain ⟨y, hy⟩ : ∃ y, rd X 256 = y := ⟨_, rfl⟩
      rw [hy] at z
      have Hgs2 := Hgs.out
      rw [hy] at Hgs2
      by_cases hy0 : y = 0
      · rw [if_pos hy0] at Hgs2
        rcases hx with ⟨l1, l2, q, A1, c1, A2, c2, hgs, _⟩ | ⟨_, rfl, _⟩
        · rw [Hgs2] at hgs
          cases hgs
        · subst hy0
          clear hy Hgs2
          go_wp2
          go_ret
          exact ⟨rfl, H7.out⟩
      · rw [if_neg hy0] at Hgs2
        rcases hx with ⟨l1, l2, q, A1, c1, A2, c2, hgs, rfl, hr1, hr2, hrq⟩ | ⟨hgs, _⟩
        · have e0 := Hgs2.symm.trans hgs
          simp only [Option.some.injEq, Prod.mk.injEq] at e0
          obtain ⟨e1, e2, e3⟩ := e0
          have hl1 : l1.length = na := by rw [← e1, List.length_take]; omega
          have hl2 : l2.length = nb := by rw [← e2, List.length_take]; omega
          rw [hl1] at hr1 ⊢
          rw [hl2] at hr2 ⊢
          have R1 := Lib.hid hr1
          have R2 := Lib.hid hr2
          have Hrq := Lib.hid hrq
          have E1 : Hid (∀ i, i < na → rd X i = rd l1 i) := Lib.hid (fun i hi => by rw [← e1, rd_takeL hi])
          have E2 : Hid (∀ i, i < nb → rd Y i = rd l2 i) := Lib.hid (fun i hi => by rw [← e2, rd_takeL hi])
          have d0 : (y == 0) = false := by simpa using hy0
          subst e3
          clear hgs hr1 hr2 hrq Hgs2 hl1 hl2 e1 e2 hy
          go_wp2_with fail
          refine (same8z_calls (some ⟨ga, 0, none⟩) A1 286 na 286 c1 X l1 _ Ra7.out R1.out (by omega) (by omega) E1.out (fun i h1 h2 => Toa.out i h1 (by omega))).mono ?_
          rintro e w8 ⟨rfl, hb8⟩
          have H8 := Lib.hid (below_seq H7.out (Nat.le_refl _) hb8)
          have Rb8 := Lib.hid (Rb7.out.below hb8)
          have R28 := Lib.hid (R2.out.below hb8)
          have Hrq8 := Lib.hid (Hrq.out.keep hb8)
          clear hb8
          go_wp2_with fail
          refine (same8z_calls (some ⟨gb, 0, none⟩) A2 30 nb 30 c2 Y l2 _ Rb8.out R28.out (by omega) (by omega) E2.out (fun i h1 h2 => Tob.out i h1 (by omega))).mono ?_
          rintro e w9 ⟨rfl, hb9⟩
          have H9 := Lib.hid (below_seq H8.out (Nat.le_refl _) hb9)
          have Hrq9 := Lib.hid (Hrq8.out.keep hb9)
          clear hb9
          go_wp2_with fail
          refine (At_calls r Bk lB c _ _ Hrq9.out).mono ?_
          rintro e w10 ⟨rfl, hb10⟩
          have H10 := Lib.hid (below_seq H9.out (Nat.le_refl _) hb10)
          clear hb10
          have i1 : (257 : Int) ≤ (na : Int) := by omega
          have i2 : (1 : Int) ≤ (nb : Int) := by omega
          go_wp2
          go_ret
          exact ⟨rfl, H10.out⟩
        · rw [Hgs2] at hgs
          cases hgs
    · go_wp2_with fail
      refine (awake8_calls _).mono ?_
      rintro e w2 ⟨rfl, hb2⟩
      have H2 := Lib.hid (below_seq H1.out (Nat.le_refl _) hb2)
      clear hb2
      go_wp2
      go_ret
      exact ⟨rfl, H2.out⟩
  · go_wp2_with fail
    refine (awake8_calls _).mono ?_
    rintro e w2 ⟨rfl, hb2⟩
    have H2 := Lib.hid (below_seq H1.out (Nat.le_refl _) hb2)
    clear hb2
    go_wp2
    go_ret
    exact ⟨rfl, H2.out⟩
end Go.Proofs.YtkjoncllnlmdgaaDoor
