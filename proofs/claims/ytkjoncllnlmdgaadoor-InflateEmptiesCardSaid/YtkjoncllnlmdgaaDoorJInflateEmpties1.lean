/-
  Texts joined into one file: InflateEmpties.
-/
import Derived.Test.YtkjoncllnlmdgaaDoorJInfH9
/-
  The walk of the law InflateEmpties.
-/
namespace Go.Proofs.YtkjoncllnlmdgaaDoor
open Go.RowKit

set_option maxHeartbeats 1000000 in
set_option maxRecDepth 100000 in
theorem InflateEmpties_calls (n : Int) (A : Option Addr) (len cap : Nat) (bs : List Int) (w : World) (hn : 0 ≤ n ∧ n ≤ 255) (hR : Rd w .u8 A len bs) (hb : ∀ j, j < len → 0 ≤ rd bs j ∧ rd bs j ≤ 255) (hA : A = none → len = 0 ∧ cap = 0) (hcap : len ≤ cap) (hlen : len ≤ 140737488351232) (hL : Tabs9 w) :
    Calls Tryd.prog 13 #[.int .u8 n, .slice A len cap] w fun e w' => e = .returned (.bool true) ∧ Below w.heap.size w w' := by
  have HA := Lib.hid hA
  have HT := Lib.hid hL.1
  have HO := Lib.hid hL.2
  have HR := Lib.hid hR
  have Hb := Lib.hid hb
  have Hl := Lib.hid hR.1
  obtain ⟨hn0, hn1⟩ := hn
  obtain ⟨k, hk⟩ : ∃ k : Nat, n % 20 = k := ⟨(n % 20).toNat, by omega⟩
  have hk20 : k < 20 := by omega
  have HK := Lib.hid hk
  clear hR hb hL hA hk
  go_enter Tryd.func13, Tryd.ntmps13
  go_wp2_with fail
  refine (awake10_calls _ HT.out HO.out).mono ?_
  rintro e w1 ⟨rfl, hb1⟩
  have HB1 := Lib.hid hb1
  have hs1 := hb1.size
  clear hb1
  by_cases hle : len ≤ 700
  · go_wp2_with fail
    go_loopw [5, 6] (fun v i wr => ∃ j : Nat, j ≤ k ∧ i = .int .i64 j ∧ Hid (wr.ownsRow w1.heap.size 5 1 v (5 * j) (ints .u8 (empties j))) ∧ Hid (Below w1.heap.size w1 wr)) (fun _ i _ => k - (intOf i).toNat)
    case atStart => exact ⟨0, by omega, rfl, World.ownsRow_nil _ _ _ _, Below.refl _ _⟩
    case round =>
      obtain ⟨j, hj, rfl, HO1, HB2⟩ := hrel
      by_cases hlt : j < k
      · have hjn : (j : Int) < n % 20 := by rw [HK.out]; omega
        obtain ⟨g0, c0, hv⟩ := own_slice HO1.out
        subst hv
        have hsz := HB2.out.size
        go_wp2_with (at_builtin; refine wpList_appRd rfl _ _ rfl elB (own_below HO1.out ((Below.refl _ _).alloc (Nat.le_refl _) _)) rfl rfl (Blk.rd (l := [0, 0, 0, 255, 255]) (k := .u8) (heap_alloc_new wr _) rfl) (fun e => by cases e) (by omega) (by simp; omega) ?_; intro v2 w2 hown2 hg2; have Hown2 := Lib.hid hown2; have Hg2 := Lib.hid hg2; clear hown2 hg2)
        go_roundw
        case rel =>
          refine ⟨j + 1, by omega, by go_num, ?_, ?_⟩
          · rw [empties_succ]; exact Hown2.out
          · exact (HB2.out.alloc hsz _).grown Hg2.out (by simp; omega) (fun b hb => (HO1.out.lt b hb).1)
        case measure => simp [intOf]; omega
      · obtain rfl : j = k := by omega
        have hjn : ¬ (j : Int) < n % 20 := by rw [HK.out]; omega
        obtain ⟨W5, hW5⟩ : ∃ W, W = wr := ⟨_, rfl⟩
        subst hW5
        have HB5 := Lib.hid (below_seq HB1.out (Nat.le_refl _) HB2.out)
        obtain ⟨g0, c0, hv⟩ := own_slice HO1.out
        subst hv
        have hsz := HB2.out.size
        clear hj hlt
        go_wp2_with fail
        refine (DPress_calls A len cap bs _ ((HR.out.below HB1.out).below HB2.out) Hb.out HA.out hcap (by omega) (HT.out.below HB5.out) (fun j hj => kept_cell HB5.out (HO.out j hj))).mono ?_
        rintro e w6 ⟨v6, rfl, ho6, hb6⟩
        have HB6 := Lib.hid (below_seq HB5.out (Nat.le_refl _) hb6)
        have hpl : (pressB bs).length ≤ len + 5 := by
          have h1 := (pressB_le bs).1
          have h2 := storedB_length (b := bs) (by rw [Hl.out]; omega)
          rw [h2, Hl.out] at h1
          exact h1
        obtain ⟨g6, c6, rfl, _, hr6⟩ := own_rd ho6
        have HN6 := Lib.hid (own_none ho6)
        have HO6 := Lib.hid (own_below HO1.out hb6)
        have hsz6 := hb6.size
        obtain ⟨m, hm⟩ : ∃ m, m = (pressB bs).length := ⟨_, rfl⟩
        obtain ⟨T, hT⟩ : ∃ T, T = 5 * j + m := ⟨_, rfl⟩
        have hTl : T ≤ 1000 := by omega
        rw [← hm] at hr6 hpl HN6 ⊢
        have Hr6 := Lib.hid hr6
        have HT5 := Lib.hid hT
        have Hm := Lib.hid hm
        clear ho6 hb6 hr6 hT hm
        go_wp2_with (at_builtin; refine wpList_appRd rfl _ _ rfl elB HO6.out rfl rfl Hr6.out HN6.out (by omega) (by omega) ?_; intro v7 w7 hown7 hg7; rw [← HT5.out] at hown7; have Hown7 := Lib.hid hown7; have Hg7 := Lib.hid hg7; clear hown7 hg7)
        have HB7 := Lib.hid (HB6.out.grown Hg7.out (by omega) (fun b hb => by have := (HO6.out.lt b hb).1; omega))
        obtain ⟨A7, c7, hv7, hc7, hr7⟩ := own_rd Hown7.out
        subst hv7
        have HN7 := Lib.hid (own_none Hown7.out)
        have Hr7 := Lib.hid hr7
        obtain ⟨q, hq, hq8⟩ := openS_empties (b := bs) (fun i hi => Hb.out i (by rw [← Hl.out]; exact hi)) (by rw [Hl.out]; omega) j
        rw [Hl.out] at hq
        rw [← Hm.out, ← HT5.out] at hq8
        have Hq := Lib.hid hq
        have Hq8 := Lib.hid hq8
        clear hr7 hq hq8
        go_wp2_with fail
        refine (Open_calls A7 T c7 (empties j ++ pressB bs) len _ Hr7.out HN7.out (fun i hi => rd_bytes (l := empties j ++ pressB bs) (fun x hx => ?_) i (by rw [Hr7.out.1]; exact hi)) (by omega) (by omega) (HT.out.below HB7.out) (fun j hj => kept_cell HB7.out (HO.out j hj))).mono ?_
        · rcases List.mem_append.1 hx with h | h
          · exact empties_byte j x h
          · exact all_of_rd (pressB_byte (all_of_rd (fun i hi => Hb.out i (by rw [← Hl.out]; exact hi)))) x h
        rintro e w8 ⟨Hx, hb8⟩
        have HB8 := Lib.hid (below_seq HB7.out (Nat.le_refl _) hb8)
        rcases Hx.out with ⟨q2, o2, v2, h2, rfl, ho2⟩ | ⟨c2', h2, hc2', rfl⟩
        · rw [Hq.out] at h2
          cases h2
          rw [Hq8.out]
          obtain ⟨A8, c8, rfl, _, hr8⟩ := own_rd ho2
          rw [Hl.out] at hr8 ⊢
          have cv1 := conv_all (c := c8) hr8
          have cv2 := conv_all (c := cap) (HR.out.below HB8.out)
          clear hb8 Hx ho2 hr8
          go_wp2_with fail
          go_ret
          exact ⟨rfl, HB8.out⟩
        · rw [Hq.out] at h2; cases h2
  · go_wp2_with fail
    refine (awake10_calls _ (HT.out.below HB1.out) (fun j hj => kept_cell HB1.out (HO.out j hj))).mono ?_
    rintro e w2 ⟨rfl, hb2⟩
    have H2 := Lib.hid (below_seq HB1.out (Nat.le_refl _) hb2)
    clear hb2
    go_wp2
    go_ret
    exact ⟨rfl, H2.out⟩
theorem InflateEmpties_walk (n : Int) (A : Option Addr) (len cap : Nat) (z : List Int) (w : World) (h1 : (Lit.int .u8 n).wf = true) (h : IsRow .u8 w A len cap z) (y : len * 1 ≤ 140737488351232) (hL : Tabs9 w) :
    Calls Tryd.prog 13 #[.int .u8 n, .slice A len cap] w fun e w' => e = .returned (.bool true) ∧ Below w.heap.size w w' :=
  InflateEmpties_calls n A len cap (z.take len) w (u8_of_wf h1) h.rd h.u8 (isRow_nil h) (isRow_le h) (by omega) hL
end Go.Proofs.YtkjoncllnlmdgaaDoor
