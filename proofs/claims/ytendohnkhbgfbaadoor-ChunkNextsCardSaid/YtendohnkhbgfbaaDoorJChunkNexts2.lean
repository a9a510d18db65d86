/-
  Texts joined into one file: ChunkNexts.
-/
import Derived.Test.YtendohnkhbgfbaaDoorJChunkNexts1
import Derived.Test.YtendohnkhbgfbaaDoorJRefShaD6
/-
  The walk of the law ChunkNexts.
-/
namespace Go.Proofs.YtendohnkhbgfbaaDoor
open Go.RowKit

set_option maxHeartbeats 1000000 in
set_option maxRecDepth 100000 in
theorem ChunkNexts_calls (hP : RPlain) (A : Option Addr) (len cap : Nat) (bs : List Int) (w : World) (hR : Rd w .u8 A len bs) (hb : ∀ x ∈ bs, 0 ≤ x ∧ x ≤ 255) (hA : A = none → len = 0 ∧ cap = 0) (hcap : len ≤ cap) (hlen : len ≤ 140737488351232) (hL : Tabs22 w) :
    Calls Tryd.prog 4 #[.slice A len cap] w fun e w' => e = .returned (.bool true) ∧ Below w.heap.size w w' := by
  have HA := Lib.hid hA
  have HT := Lib.hid hL
  have HR := Lib.hid hR
  have Hb := Lib.hid hb
  have HP := Lib.hid hP
  clear hR hb hL hA hP
  go_enter Tryd.func4, Tryd.ntmps4
  go_wp2_with fail
  refine (awake22_calls _ HT.out).mono ?_
  rintro e w1 ⟨rfl, hb1⟩
  have HB1 := Lib.hid hb1
  clear hb1
  by_cases hle : len ≤ 900
  · go_wp2_with fail
    refine (ChNext_calls A len cap bs w1 (HR.out.below HB1.out) HA.out hcap Hb.out (by omega) (HT.out.below HB1.out).keys (HT.out.below HB1.out).beg (HT.out.below HB1.out).mag).mono ?_
    rintro e w2 ⟨K, A2, n2, c2, C, M, E, rfl, HN, HO2, hb2⟩
    obtain ⟨_, _, ea, hc2, hr2⟩ := own_rd HO2.out
    cases ea
    have Hr2 := Lib.hid hr2
    have HB2 := Lib.hid (below_seq HB1.out (Nat.le_refl _) hb2)
    clear hb2 HO2 hr2
    go_upto_region 4 with fail
    obtain ⟨g3, hg3⟩ : ∃ g3, g3 = w2.heap.size := ⟨_, rfl⟩
    obtain ⟨w3, hw3⟩ : ∃ X, X = w2.alloc (.cells #[.int .i64 K, .slice A2 n2 c2] 26) := ⟨_, rfl⟩
    rw [← hw3, ← hg3]
    have hb3 : Below w2.heap.size w2 w3 := by rw [hw3]; exact (Below.refl _ _).alloc (Nat.le_refl _) _
    have hrow3 : w3.heap[g3]? = some (.cells #[.int .i64 K, .slice A2 n2 c2] 26 (0, 0)) := by rw [hw3, hg3]; exact heap_alloc_new w2 _
    have HK0 := Lib.hid (two_c0 hrow3)
    have HK1 := Lib.hid (two_c1 hrow3)
    have HB3 := Lib.hid (below_seq HB2.out (Nat.le_refl _) hb3)
    have Hr3 := Lib.hid (Hr2.out.below hb3)
    clear hw3 hg3 hb3 hrow3
    go_wp2_with fail
    refine (rChNext_calls HP.out A len cap bs w3 (HR.out.below HB3.out) HA.out hcap Hb.out (by omega)).mono ?_
    rintro e w4 ⟨K', A4, n4, c4, C', M', E', rfl, HN', Hr4, _, _, hb4⟩
    obtain ⟨rfl, rfl, rfl, rfl⟩ := HN.out.same HN'.out
    have k0 := kept_cell hb4 HK0.out
    have k1 := kept_cell hb4 HK1.out
    have cv1 := conv_all (c := c2) (Hr3.out.below hb4)
    have cv2 := conv_all (c := c4) Hr4.out
    obtain ⟨sC, hsC⟩ : ∃ s, s = strOfNums C := ⟨_, rfl⟩
    rw [← hsC] at cv1 cv2
    have qC : (sC.toList == sC.toList) = true := by rw [tl_beq]; exact decide_eq_true rfl
    have HB4 := Lib.hid (below_seq HB3.out (Nat.le_refl _) hb4)
    clear hb4 hsC HN HN'
    go_wp2
    go_ret
    exact ⟨rfl, HB4.out⟩
  · go_wp2_with fail
    refine (awake22_calls _ (HT.out.below HB1.out)).mono ?_
    rintro e w2 ⟨rfl, hb2⟩
    have H2 := Lib.hid (below_seq HB1.out (Nat.le_refl _) hb2)
    clear hb2
    go_wp2
    go_ret
    exact ⟨rfl, H2.out⟩
theorem ChunkNexts_walk (A : Option Addr) (len cap : Nat) (z : List Int) (w : World) (h : IsRow .u8 w A len cap z) (y : len * 1 ≤ 140737488351232) (hL : Tabs22 w) :
    Calls Tryd.prog 4 #[.slice A len cap] w fun e w' => e = .returned (.bool true) ∧ Below w.heap.size w w' :=
  ChunkNexts_calls (rPlain_of rSha_calls) A len cap (z.take len) w h.rd (isRow_byte h) (isRow_nil h) (isRow_le h) (by omega) hL
end Go.Proofs.YtendohnkhbgfbaaDoor
