/-
  The walk of the law HuffLengths.
-/
import Derived.Test.YtempgkglhgelkaaLaw5
import Derived.Test.YtempgkglhgelkaaRefLens
namespace Go.Proofs.Ytempgkglhgelkaa
open Go.RowKit

set_option maxHeartbeats 2000000 in
theorem HuffLengths_walk (most : Int) (a : Option Addr) (len cap : Nat) (zs : List Int) (w : World) (_hm : (Lit.int .i64 most).wf = true) (hz : IsRow .i64 w a len cap zs) (hlen : len * 8 ≤ 140737488351232) :
    Calls Try.prog 6 #[.int .i64 most, .slice a len cap] w fun e w' => e = .returned (.bool true) ∧ Below w.heap.size w w' := by
  obtain ⟨xs, hxs⟩ : ∃ xs, xs = zs.take len := ⟨_, rfl⟩
  have hR : Rd w .i64 a len xs := by rw [hxs]; exact hz.rd
  have HR := Lib.hid hR
  have HA := Lib.hid hz.nil
  clear hxs hz hR
  cases hf : fitsB most xs
  · go_enter Try.func6, Try.ntmps6
    have Hf := Lib.hid hf
    clear hf
    go_wp2_with fail
    refine (awake5_calls _).mono ?_
    rintro e w1 ⟨rfl, hb1⟩
    have H1 := Lib.hid hb1
    have HR1 := Lib.hid (HR.out.below hb1)
    clear hb1
    go_wp2_with fail
    refine (fits_calls most a len cap xs _ HR1.out (by omega)).mono ?_
    rintro e w2 ⟨rfl, rfl⟩
    rw [Hf.out]
    go_wp2_with fail
    refine (awake5_calls _).mono ?_
    rintro e w2 ⟨rfl, hb2⟩
    have H2 := Lib.hid (below_seq H1.out (Nat.le_refl _) hb2)
    clear hb2
    go_wp2
    go_ret
    exact ⟨rfl, H2.out⟩
  · have F := Lib.hid (Fits.of hf)
    have Hf := Lib.hid hf
    have hxl := Lib.hid HR.out.1
    have hln : len ≤ 300 := by have := F.out.len; rw [hxl.out] at this; exact this
    obtain ⟨m, rfl⟩ : ∃ m : Nat, most = m := ⟨most.toNat, by have := F.out.m; omega⟩
    have hm1 : 1 ≤ m := by have := F.out.m; omega
    have hfew : (posTo xs xs.length).length ≤ 2 ^ m := by have := F.out.few; rwa [Int.toNat_natCast] at this
    have Hfew := Lib.hid hfew
    clear hf hfew
    go_enter Try.func6, Try.ntmps6
    go_wp2_with fail
    refine (awake5_calls _).mono ?_
    rintro e w1 ⟨rfl, hb1⟩
    have H1 := Lib.hid hb1
    have HR1 := Lib.hid (HR.out.below hb1)
    clear hb1
    go_wp2_with fail
    refine (fits_calls m a len cap xs _ HR1.out (by omega)).mono ?_
    rintro e w2 ⟨rfl, rfl⟩
    rw [Hf.out]
    go_wp2_with fail
    refine (Lengths_calls m a len cap xs _ hm1 HR1.out HA.out (by omega) F.out.wts F.out.sum Hfew.out).mono ?_
    rintro e w4 ⟨v4, rfl, ho4, hb4⟩
    have H4 := Lib.hid (below_seq H1.out (Nat.le_refl _) hb4)
    have HR4 := Lib.hid (HR1.out.below hb4)
    obtain ⟨A4, c4, rfl, hc4, hR4⟩ := own_rd ho4
    have K4 := Lib.hid hR4
    clear hb4 hR4 ho4
    go_wp2_with fail
    refine (refLengths_calls m a len cap xs _ hm1 HR4.out HA.out (by omega) F.out.wts F.out.sum Hfew.out).mono ?_
    rintro e w5 ⟨v5, rfl, ho5, hb5⟩
    have H5 := Lib.hid (below_seq H4.out (Nat.le_refl _) hb5)
    have K5 := Lib.hid (K4.out.below hb5)
    obtain ⟨A5, c5, rfl, hc5, hR5⟩ := own_rd ho5
    have M5 := Lib.hid hR5
    clear hb5 hR5 ho5
    go_wp2_with fail
    refine (same5_calls A4 A5 len c4 c5 _ _ K5.out M5.out (by omega)).mono ?_
    rintro e w6 ⟨rfl, hb6⟩
    have H6 := Lib.hid (below_seq H5.out (Nat.le_refl _) hb6)
    clear hb6
    go_wp2
    go_ret
    exact ⟨rfl, H6.out⟩
end Go.Proofs.Ytempgkglhgelkaa
