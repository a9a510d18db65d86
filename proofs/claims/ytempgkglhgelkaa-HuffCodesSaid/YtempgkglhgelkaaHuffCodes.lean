/-
  The walk of the law HuffCodes.
-/
import Derived.Test.YtempgkglhgelkaaAw5
import Derived.Test.YtempgkglhgelkaaHuffN
import Derived.Test.YtempgkglhgelkaaHuffR
import Derived.Test.YtempgkglhgelkaaHuffS
import Derived.Deep.RegionWith
namespace Go.Proofs.Ytempgkglhgelkaa
open Go.RowKit

set_option maxHeartbeats 2000000 in
theorem HuffCodes_walk (a : Option Addr) (len cap : Nat) (zs : List Int) (w : World) (hz : IsRow .i64 w a len cap zs) (hlen : len * 8 ≤ 140737488351232) :
    Calls Try.prog 9 #[.slice a len cap] w fun e w' => e = .returned (.bool true) ∧ Below w.heap.size w w' := by
  obtain ⟨xs, hxs⟩ : ∃ xs, xs = zs.take len := ⟨_, rfl⟩
  have hR : Rd w .i64 a len xs := by rw [hxs]; exact hz.rd
  have HR := Lib.hid hR
  clear hxs hz hR
  go_enter Try.func9, Try.ntmps9
  go_wp2_with fail
  refine (awake5_calls _).mono ?_
  rintro e w1 ⟨rfl, hb1⟩
  have H1 := Lib.hid hb1
  have HR1 := Lib.hid (HR.out.below hb1)
  clear hb1
  by_cases hl : len ≤ 300
  · go_wp2_with fail
    refine (New_calls a len cap xs _ HR1.out (by omega)).mono ?_
    rintro e w2 ⟨hn, hb2⟩
    have H2 := Lib.hid (below_seq H1.out (Nat.le_refl _) hb2)
    have HR2 := Lib.hid (HR1.out.below hb2)
    clear hb2
    rcases hn with ⟨hr, rfl⟩ | ⟨hr, h, rfl, _⟩
    · go_wp2_with fail
      refine (Right_calls a len cap xs _ HR2.out (by omega)).mono ?_
      rintro e w3 ⟨rfl, hb3⟩
      have H3 := Lib.hid (below_seq H2.out (Nat.le_refl _) hb3)
      have HR3 := Lib.hid (HR2.out.below hb3)
      rw [hr]
      clear hb3
      go_wp2_with fail
      refine (refRight_calls a len cap xs _ HR3.out (by omega)).mono ?_
      rintro e w4 ⟨rfl, hb4⟩
      have H4 := Lib.hid (below_seq H3.out (Nat.le_refl _) hb4)
      have HR4 := Lib.hid (HR3.out.below hb4)
      rw [hr]
      clear hb4
      go_wp2_with fail
      refine (refRight_calls a len cap xs _ HR4.out (by omega)).mono ?_
      rintro e w5 ⟨rfl, hb5⟩
      have H5 := Lib.hid (below_seq H4.out (Nat.le_refl _) hb5)
      rw [hr]
      clear hb5 hr
      go_wp2
      go_ret
      exact ⟨rfl, H5.out⟩
    · go_wp2_with fail
      refine (Right_calls a len cap xs _ HR2.out (by omega)).mono ?_
      rintro e w3 ⟨rfl, hb3⟩
      have H3 := Lib.hid (below_seq H2.out (Nat.le_refl _) hb3)
      have HR3 := Lib.hid (HR2.out.below hb3)
      rw [hr]
      clear hb3
      go_wp2_with fail
      refine (refRight_calls a len cap xs _ HR3.out (by omega)).mono ?_
      rintro e w4 ⟨rfl, hb4⟩
      have H4 := Lib.hid (below_seq H3.out (Nat.le_refl _) hb4)
      have HR4 := Lib.hid (HR3.out.below hb4)
      rw [hr]
      clear hb4
      go_wp2_with fail
      refine (refRight_calls a len cap xs _ HR4.out (by omega)).mono ?_
      rintro e w5 ⟨rfl, hb5⟩
      have H5 := Lib.hid (below_seq H4.out (Nat.le_refl _) hb5)
      have HR5 := Lib.hid (HR4.out.below hb5)
      rw [hr]
      clear hb5
      have hok : lensOk xs = true := by
        unfold rightB at hr
        simp at hr
        exact hr.1
      have Hok := Lib.hid hok
      clear hok hr
      go_wp2_with fail
      refine (Codes_calls a len cap xs _ HR5.out (by omega) Hok.out).mono ?_
      rintro e w6 ⟨v, rfl, ho6, hb6⟩
      have H6 := Lib.hid (below_seq H5.out (Nat.le_refl _) hb6)
      have HR6 := Lib.hid (HR5.out.below hb6)
      obtain ⟨A6, c6, rfl, _, hR6⟩ := own_rd ho6
      have G6 := Lib.hid hR6
      clear hb6 ho6 hR6
      go_wp2_with fail
      refine (refCodes_calls a len cap xs _ HR6.out (by omega)).mono ?_
      rintro e w7 ⟨v, rfl, ho7, hb7⟩
      have H7 := Lib.hid (below_seq H6.out (Nat.le_refl _) hb7)
      have G7 := Lib.hid (G6.out.below hb7)
      obtain ⟨A7, c7, rfl, _, hR7⟩ := own_rd ho7
      have K7 := Lib.hid hR7
      clear hb7 ho7 hR7
      go_wp2
      go_loopw [7] (fun i wr => ∃ k : Nat, k ≤ len ∧ i = .int .i64 k ∧ Hid (Below w7.heap.size w7 wr)) (fun i _ => len - (intOf i).toNat)
      case atStart => exact ⟨0, by omega, rfl, Below.refl _ _⟩
      case round =>
        obtain ⟨k, hk, rfl, Hk⟩ := hrel
        by_cases hlt : k < len
        · obtain ⟨b, o, rfl, hc⟩ := (G7.out.below Hk.out).2 (by omega)
          obtain ⟨b2, o2, rfl, hc2⟩ := (K7.out.below Hk.out).2 (by omega)
          have x := hc k hlt
          have y := hc2 k hlt
          clear hc hc2
          go_wp2
          go_region
          go_wp2
          go_roundw
          case rel => exact ⟨k + 1, by omega, by go_num, Hk.out.drew⟩
          case measure => simp [intOf]; omega
        · go_wp2
          go_ret
          exact ⟨rfl, below_seq H7.out (Nat.le_refl _) Hk.out⟩
  · go_wp2_with fail
    refine (awake5_calls _).mono ?_
    rintro e w2 ⟨rfl, hb2⟩
    have H2 := Lib.hid (below_seq H1.out (Nat.le_refl _) hb2)
    clear hb2
    go_wp2
    go_ret
    exact ⟨rfl, H2.out⟩
end Go.Proofs.Ytempgkglhgelkaa
