/-
  The walks of the laws' helpers of chapter 05: awake.
-/
import Derived.Test.YtempgkglhgelkaaLens
import Derived.Test.YtempgkglhgelkaaHuffD
namespace Go.Proofs.Ytempgkglhgelkaa
open Go.RowKit

theorem lens_awake : lensOf 15 [1, 1, 2] = [2, 2, 1] := by decide +kernel
theorem codes_awake : codesOf [2, 2, 1] = [2, 3, 0] := by decide +kernel
set_option maxHeartbeats 1000000 in
theorem awake5_calls (w : World) : Calls Try.prog 16 #[] w fun e w' => e = .returned (.bool true) ∧ Below w.heap.size w w' := by
  go_enter Try.func16, Try.ntmps16
  go_wp2_with fail
  have h0 : Rd (w.alloc (.cells #[.int .i64 1, .int .i64 1, .int .i64 2] 3)) .i64 (some ⟨w.heap.size, 0, none⟩) 3 [1, 1, 2] :=
    Blk.rd (T := 3) (k := .i64) (l := [1, 1, 2]) (heap_alloc_new _ _) rfl
  refine (Lengths_calls 15 (some ⟨w.heap.size, 0, none⟩) 3 3 [1, 1, 2] _ (by omega) h0 (fun h => by cases h) (by omega) (by decide) (by decide) (by decide +kernel)).mono ?_
  rintro e w1 ⟨v, rfl, ho, hb⟩
  rw [lens_awake] at ho
  obtain ⟨A, c, rfl, hc, hR⟩ := own_rd ho
  have HR := Lib.hid hR
  have Hb := Lib.hid hb
  clear ho hb hR h0
  go_wp2_with fail
  refine (Codes_calls A 3 c [2, 2, 1] _ HR.out (by omega) (by decide)).mono ?_
  rintro e w2 ⟨v, rfl, ho, hb⟩
  rw [codes_awake] at ho
  obtain ⟨A2, c2, rfl, hc2, hR2⟩ := own_rd ho
  have hR1 := HR.out.below hb
  obtain ⟨b, o, rfl, hcell⟩ := hR1.2 (by omega)
  obtain ⟨b2, o2, rfl, hcell2⟩ := hR2.2 (by omega)
  have x0 := hcell 0 (by omega)
  have x1 := hcell 1 (by omega)
  have x2 := hcell 2 (by omega)
  have y0 := hcell2 0 (by omega)
  have y1 := hcell2 1 (by omega)
  have y2 := hcell2 2 (by omega)
  rw [show rd [2, 2, 1] 0 = 2 from rfl, Nat.add_zero] at x0
  rw [show rd [2, 2, 1] 1 = 2 from rfl] at x1
  rw [show rd [2, 2, 1] 2 = 1 from rfl] at x2
  rw [show rd [2, 3, 0] 0 = 2 from rfl, Nat.add_zero] at y0
  rw [show rd [2, 3, 0] 1 = 3 from rfl] at y1
  rw [show rd [2, 3, 0] 2 = 0 from rfl] at y2
  have Hb2 := Lib.hid (below_seq (below_seq (below_new (Below.refl w.heap.size w) (Nat.le_refl _) _) (Nat.le_refl _) Hb.out) (Nat.le_refl _) hb)
  clear ho hb hR1 hR2 hcell hcell2 HR
  go_wp2
  go_ret
  exact ⟨rfl, Hb2.out⟩
end Go.Proofs.Ytempgkglhgelkaa
