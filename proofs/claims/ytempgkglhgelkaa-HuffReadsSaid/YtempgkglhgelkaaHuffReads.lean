/-
  The walk of the law HuffReads.
-/
import Derived.Test.YtempgkglhgelkaaAw5
import Derived.Test.YtempgkglhgelkaaHuffS
import Derived.Test.YtempgkglhgelkaaRefN
import Derived.Test.YtempgkglhgelkaaRef01
namespace Go.Proofs.Ytempgkglhgelkaa
open Go.RowKit

theorem Coder.below {w w1 : World} {base h : Nat} {xs : List Int} (hc : Coder w base h xs) (hb : Below w.heap.size w w1) : Coder w1 base h xs := by
  obtain ⟨m, v, h1, h2, h3, h4, h5⟩ := hc
  exact ⟨m, v, h1, h2, h3.below hb h3.lt, h4, own_below h5 hb⟩
theorem Coder.grown {w w1 : World} {base h r : Nat} {xs : List Int} {A : Option Addr} {len cap p : Nat} (hc : Coder w base h xs) (hR : RdrAt w r A len cap p) (hg : w.grownBy w1 (some r)) (hhr : h ≠ r) : Coder w1 base h xs := by
  obtain ⟨m, v, h1, h2, h3, h4, h5⟩ := hc
  exact ⟨m, v, h1, h2, (hg.block h h3.lt (by simpa using hhr)).trans h3, h4, h5.kept hg (.inr (own_ne hR (by decide) h5))⟩
theorem Coder.lt {w : World} {base h : Nat} {xs : List Int} (hc : Coder w base h xs) : h < w.heap.size := by
  obtain ⟨m, v, h1, h2, h3, h4, h5⟩ := hc
  exact h3.lt
/-- The bits that are left. -/
def RestAt (w : World) (r : Nat) (A : Option Addr) (m : Nat) (bs : List Int) (p : Nat) : Prop := Rd w .u8 A m (bitsOf bs p m) ∧ ∀ b o, A = some ⟨b, o, none⟩ → b ≠ r
theorem RestAt.below {w w1 : World} {r : Nat} {A : Option Addr} {m : Nat} {bs : List Int} {p : Nat} (h : RestAt w r A m bs p) (hb : Below w.heap.size w w1) : RestAt w1 r A m bs p := ⟨h.1.below hb, h.2⟩
theorem RestAt.grown {w w1 : World} {r : Nat} {A : Option Addr} {m : Nat} {bs : List Int} {p : Nat} (h : RestAt w r A m bs p) (hg : w.grownBy w1 (some r)) : RestAt w1 r A m bs p := ⟨h.1.grown hg h.2, h.2⟩
theorem RestAt.next {w : World} {r b o m : Nat} {bs : List Int} {p : Nat} (h : RestAt w r (some ⟨b, o, none⟩) m bs p) (k : Nat) (hk : k ≤ m) : RestAt w r (some ⟨b, o + k, none⟩) (m - k) bs (p + k) := by
  refine ⟨⟨by rw [bitsOf_length], fun hm => ⟨b, o + k, rfl, fun j hj => ?_⟩⟩, fun b' o' e => ?_⟩
  · obtain ⟨b', o', e, hc⟩ := h.1.2 (by omega)
    cases e
    have h9 := hc (k + j) (by omega)
    rw [rd_bitsOf (by omega)] at h9
    rw [rd_bitsOf hj, Nat.add_assoc, Nat.add_assoc]
    exact h9
  · cases e
    exact h.2 b o rfl
theorem RestAt.empty {w : World} {r b o m : Nat} {bs : List Int} {p : Nat} (h : RestAt w r (some ⟨b, o, none⟩) m bs p) (p' : Nat) : RestAt w r (some ⟨b, o, none⟩) 0 bs p' := ⟨⟨by rw [bitsOf_length], fun h => by omega⟩, h.2⟩
set_option maxHeartbeats 4000000 in
set_option maxRecDepth 100000 in
theorem HuffReads_walk (a : Option Addr) (len cap : Nat) (zs : List Int) (a2 : Option Addr) (len2 cap2 : Nat) (zs2 : List Int) (w : World) (hz : IsRow .i64 w a len cap zs) (hlen : len * 8 ≤ 140737488351232) (hz2 : IsRow .u8 w a2 len2 cap2 zs2) (hlen2 : len2 * 1 ≤ 140737488351232) :
    Calls Try.prog 10 #[.slice a len cap, .slice a2 len2 cap2] w fun e w' => e = .returned (.bool true) ∧ Below w.heap.size w w' := by
  obtain ⟨xs, hxs⟩ : ∃ xs, xs = zs.take len := ⟨_, rfl⟩
  obtain ⟨bs, hbs⟩ : ∃ bs, bs = zs2.take len2 := ⟨_, rfl⟩
  have hR : Rd w .i64 a len xs := by rw [hxs]; exact hz.rd
  have hB : Rd w .u8 a2 len2 bs := by rw [hbs]; exact hz2.rd
  have hb : ∀ j, j < len2 → 0 ≤ rd bs j ∧ rd bs j ≤ 255 := by rw [hbs]; exact hz2.u8
  have hA2 : a2 = none → len2 = 0 ∧ cap2 = 0 := by
    intro e
    rcases hz2 with ⟨_, h1, h2, _⟩ | ⟨x, rfl, _⟩
    · exact ⟨h1, h2⟩
    · cases e
  have HR := Lib.hid hR
  have HB := Lib.hid hB
  have Hb := Lib.hid hb
  have HA2 := Lib.hid hA2
  clear hxs hbs hz hz2 hR hB hb hA2
  go_enter Try.func10, Try.ntmps10
  go_wp2_with fail
  refine (awake5_calls _).mono ?_
  rintro e w1 ⟨rfl, hb1⟩
  have H1 := Lib.hid hb1
  have HR1 := Lib.hid (HR.out.below hb1)
  have HB1 := Lib.hid (HB.out.below hb1)
  clear hb1
  by_cases hl : len ≤ 300
  · by_cases hl2 : len2 ≤ 300
    · go_wp2_with fail
      refine (refRight_calls a len cap xs _ HR1.out (by omega)).mono ?_
      rintro e w2 ⟨rfl, hb2⟩
      have H2 := Lib.hid (below_seq H1.out (Nat.le_refl _) hb2)
      have HR2 := Lib.hid (HR1.out.below hb2)
      have HB2 := Lib.hid (HB1.out.below hb2)
      clear hb2
      cases hr : rightB xs
      · go_wp2_with fail
        refine (awake5_calls _).mono ?_
        rintro e w3 ⟨rfl, hb3⟩
        have H3 := Lib.hid (below_seq H2.out (Nat.le_refl _) hb3)
        clear hb3
        go_wp2
        go_ret
        exact ⟨rfl, H3.out⟩
      · have hok : lensOk xs = true := by
          unfold rightB at hr
          simp at hr
          exact hr.1
        have Hok := Lib.hid hok
        have Hr := Lib.hid hr
        clear hok hr
        go_wp2_with fail
        refine (New_calls a len cap xs _ HR2.out (by omega)).mono ?_
        rintro e w3 ⟨hnew, hb3⟩
        have hs3 := hb3.size
        have H3 := Lib.hid (below_seq H2.out (Nat.le_refl _) hb3)
        have HR3 := Lib.hid (HR2.out.below hb3)
        have HB3 := Lib.hid (HB2.out.below hb3)
        clear hb3
        rcases hnew with ⟨hf, _⟩ | ⟨_, h, rfl, hcod⟩
        · rw [Hr.out] at hf
          cases hf
        have HC3 := Lib.hid hcod
        clear hcod
        go_wp2_with fail
        refine (BNew_calls a2 len2 cap2 bs _ HB3.out HA2.out (by omega)).mono ?_
        rintro e w4 ⟨r, B, c, rfl, hr4, hrd, hrow, hb4⟩
        have hs4 := hb4.size
        have H4 := Lib.hid (below_seq H3.out (Nat.le_refl _) hb4)
        have HR4 := Lib.hid (HR3.out.below hb4)
        have HB4 := Lib.hid (HB3.out.below hb4)
        have hhr : h ≠ r := by have := HC3.out.lt; omega
        have HC4 := Lib.hid (HC3.out.below hb4)
        have hneB : ∀ b o, B = some ⟨b, o, none⟩ → b ≠ r := fun b o e e2 => by
          subst e e2
          exact own_ne hrd (by decide) hrow rfl
        obtain ⟨B', c', e4, _, hbr⟩ := own_rd hrow
        cases e4
        have HneB := Lib.hid hneB
        have Hrd4 := Lib.hid hrd
        have Hbr4 := Lib.hid hbr
        clear hneB hrd hbr hrow hb4
        go_wp2_with fail
        refine (Of_calls a2 len2 cap2 bs _ HB4.out Hb.out (by omega)).mono ?_
        rintro e w5 ⟨v5, rfl, ho5, hb5⟩
        obtain ⟨A5, c5, rfl, _, hr5⟩ := own_rd ho5
        have H5 := Lib.hid (below_seq H4.out (Nat.le_refl _) hb5)
        have HR5 := Lib.hid (HR4.out.below hb5)
        have Hrd5 := Lib.hid (Hrd4.out.keep hb5)
        have Hbr5 := Lib.hid (Hbr4.out.below hb5)
        have HC5 := Lib.hid (HC4.out.below hb5)
        have hA5 : RestAt w5 r A5 (8 * len2) bs 0 := ⟨hr5, fun b o e e2 => by
          subst e e2
          exact own_ne Hrd5.out (by decide) ho5 rfl⟩
        have HA5 := Lib.hid hA5
        have hs5 := hb5.size
        clear hA5 hr5 ho5 hb5
        go_wp2
        go_loopw [8, 9] (fun v i wr => ∃ (q p : Nat) (A8 : Option Addr) (c8 : Nat), q ≤ 200 ∧ i = .int .i64 q ∧ p ≤ 8 * len2 ∧ v = .slice A8 (8 * len2 - p) c8 ∧ 8 * len2 - p ≤ c8 ∧ Hid (RestAt wr r A8 (8 * len2 - p) bs p) ∧ Hid (RdrAt wr r B len2 c p) ∧ Hid (Rd wr .u8 B len2 bs) ∧ Hid (Coder wr w2.heap.size h xs) ∧ Hid (Rd wr .i64 a len xs) ∧ Hid (Below w.heap.size w wr)) (fun _ i _ => 200 - (intOf i).toNat)
        case atStart => exact ⟨0, 0, A5, c5, by omega, rfl, by omega, rfl, by omega, HA5.out, Hrd5.out, Hbr5.out, HC5.out, HR5.out, H5.out⟩
        case round =>
          obtain ⟨q, p, A8, c8, hq, rfl, hp, rfl, hc8, HA, HRd, HBr, HC, HRx, HW⟩ := hrel
          by_cases hlt : q < 200
          · go_wp2_with fail
            refine (Next_hit h r w2.heap.size B len2 c p xs bs _ HC.out (by have := HRx.out.1; omega) HRd.out HBr.out Hb.out HneB.out (by omega) hp hhr).mono ?_
            rintro e wa ⟨hne, hga⟩
            have HA1 := Lib.hid (HA.out.grown hga)
            have HBr1 := Lib.hid (HBr.out.grown hga HneB.out)
            have HC1 := Lib.hid (HC.out.grown HRd.out hga hhr)
            have HRx1 := Lib.hid (Rd.apart HR.out HRx.out hga (by have := H3.out.size; omega))
            have HW1 := Lib.hid (HW.out.grown hga HW.out.size (fun k hk => by cases hk; have := H3.out.size; omega))
            clear hga
            rcases hne with ⟨s, hs, rfl, hra⟩ | ⟨hno, rfl, p', hp', hra⟩
            · have HRa := Lib.hid hra
              have Hs := Lib.hid hs
              clear hra hs
              go_wp2_with fail
              refine (refNext_calls a len cap xs A8 (8 * len2 - p) c8 p _ bs _ HRx1.out (by omega) Hok.out HA1.out.1 (fun i hi => rd_bitsOf hi) (by omega)).mono ?_
              rintro e wb ⟨hw, hbb⟩
              have HA2' := Lib.hid (HA1.out.below hbb)
              have HBr2 := Lib.hid (HBr1.out.below hbb)
              have HC2 := Lib.hid (HC1.out.below hbb)
              have HRx2 := Lib.hid (HRx1.out.below hbb)
              have HW2 := Lib.hid (below_seq HW1.out (Nat.le_refl _) hbb)
              have HRa2 := Lib.hid (HRa.out.keep hbb)
              clear hbb
              rcases hw with ⟨t, ht, rfl⟩ | ⟨hno, rfl⟩
              · have hst := Hs.out.one ht
                subst hst
                obtain ⟨g1, g2, g3, g4, _⟩ := Hs.out
                obtain ⟨L, hL⟩ : ∃ L : Nat, rd xs s = L := ⟨(rd xs s).toNat, by omega⟩
                rw [hL, Int.toNat_natCast] at HRa2
                rw [hL] at g2 g3 g4 ⊢
                obtain ⟨b8, o8, rfl, _⟩ := HA2'.out.1.2 (by omega)
                clear ht
                rcases Nat.lt_or_ge L c8 with hcap | hcap
                · have HA3 := Lib.hid (HA2'.out.next L (by omega))
                  go_wp2_with fail
                  refine (Left_calls r B len2 c (p + L) _ HRa2.out (by omega) (by omega)).mono ?_
                  rintro e wc ⟨rfl, hbc⟩
                  have HA4 := Lib.hid (HA3.out.below hbc)
                  have HBr4 := Lib.hid (HBr2.out.below hbc)
                  have HC4' := Lib.hid (HC2.out.below hbc)
                  have HRx4 := Lib.hid (HRx2.out.below hbc)
                  have HW4 := Lib.hid (below_seq HW2.out (Nat.le_refl _) hbc)
                  have HRa4 := Lib.hid (HRa2.out.keep hbc)
                  clear hbc
                  go_wp2
                  go_roundw
                  case rel => exact ⟨q + 1, p + L, _, _, by omega, by go_num, by omega, by rw [Nat.sub_sub], by omega, by rw [← Nat.sub_sub]; exact HA4.out, HRa4.out, HBr4.out, HC4'.out, HRx4.out, HW4.out⟩
                  case measure => simp [intOf]; omega
                · obtain rfl : c8 = L := by omega
                  have HA3 := Lib.hid (HA2'.out.empty (p + c8))
                  have e0 : 8 * len2 - p - c8 = 0 := by omega
                  go_wp2_with fail
                  refine (Left_calls r B len2 c (p + c8) _ HRa2.out (by omega) (by omega)).mono ?_
                  rintro e wc ⟨rfl, hbc⟩
                  have HA4 := Lib.hid (HA3.out.below hbc)
                  have HBr4 := Lib.hid (HBr2.out.below hbc)
                  have HC4' := Lib.hid (HC2.out.below hbc)
                  have HRx4 := Lib.hid (HRx2.out.below hbc)
                  have HW4 := Lib.hid (below_seq HW2.out (Nat.le_refl _) hbc)
                  have HRa4 := Lib.hid (HRa2.out.keep hbc)
                  clear hbc
                  go_wp2
                  go_roundw
                  case rel => exact ⟨q + 1, p + c8, _, _, by omega, by go_num, by omega, by rw [show 8 * len2 - (p + c8) = 0 from by omega], by omega, by rw [← Nat.sub_sub, e0]; exact HA4.out, HRa4.out, HBr4.out, HC4'.out, HRx4.out, HW4.out⟩
                  case measure => simp [intOf]; omega
              · exact (hno s Hs.out).elim
            · go_wp2_with fail
              refine (refNext_calls a len cap xs A8 (8 * len2 - p) c8 p _ bs _ HRx1.out (by omega) Hok.out HA1.out.1 (fun i hi => rd_bitsOf hi) (by omega)).mono ?_
              rintro e wb ⟨hw, hbb⟩
              have HW2 := Lib.hid (below_seq HW1.out (Nat.le_refl _) hbb)
              clear hbb
              rcases hw with ⟨t, ht, rfl⟩ | ⟨_, rfl⟩
              · exact (hno t ht).elim
              · go_wp2
                go_ret
                exact ⟨rfl, HW2.out⟩
          · go_wp2
            go_ret
            exact ⟨rfl, HW.out⟩
    · go_wp2_with fail
      refine (awake5_calls _).mono ?_
      rintro e w2 ⟨rfl, hb2⟩
      have H2 := Lib.hid (below_seq H1.out (Nat.le_refl _) hb2)
      clear hb2
      go_wp2
      go_ret
      exact ⟨rfl, H2.out⟩
  · go_wp2_with fail
    refine (awake5_calls _).mono ?_
    rintro e w2 ⟨rfl, hb2⟩
    have H2 := Lib.hid (below_seq H1.out (Nat.le_refl _) hb2)
    clear hb2
    go_wp2
    go_ret
    exact ⟨rfl, H2.out⟩
end Go.Proofs.Ytempgkglhgelkaa
