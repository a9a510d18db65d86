/-
  Texts joined into one file: InflateCuts.
-/
import Derived.Test.YtkjoncllnlmdgaaDoorJInfH9
/-
  The walk of the law InflateCuts.
-/
namespace Go.Proofs.YtkjoncllnlmdgaaDoor
open Go.RowKit

theorem tmod_less {cut : Int} (hc : 0 ≤ cut) {n : Nat} (h : 0 < n) : ∃ k : Nat, cut.tmod (n : Int) = k ∧ k < n := by
  obtain ⟨C, rfl⟩ : ∃ C : Nat, cut = C := ⟨cut.toNat, by omega⟩
  exact ⟨C % n, (Int.ofNat_tmod C n).symm, Nat.mod_lt C h⟩
theorem wrap64_small {c : Int} (h : 0 ≤ c ∧ c ≤ 65535) : wrap64 c = c := by unfold wrap64; omega
set_option maxHeartbeats 1000000 in
set_option maxRecDepth 100000 in
theorem InflateCuts_calls (A : Option Addr) (len cap : Nat) (bs : List Int) (cut : Int) (w : World) (hR : Rd w .u8 A len bs) (hb : ∀ j, j < len → 0 ≤ rd bs j ∧ rd bs j ≤ 255) (hA : A = none → len = 0 ∧ cap = 0) (hcap : len ≤ cap) (hlen : len ≤ 140737488351232) (hcut : 0 ≤ cut ∧ cut ≤ 65535) (hL : Tabs9 w) :
    Calls Tryd.prog 11 #[.slice A len cap, .int .u16 cut] w fun e w' => e = .returned (.bool true) ∧ Below w.heap.size w w' := by
  have HA := Lib.hid hA
  have HT := Lib.hid hL.1
  have HO := Lib.hid hL.2
  have HR := Lib.hid hR
  have Hb := Lib.hid hb
  have Hl := Lib.hid hR.1
  have Hc := Lib.hid hcut
  clear hR hb hL hA hcut
  go_enter Tryd.func11, Tryd.ntmps11
  go_wp2_with fail
  refine (awake10_calls _ HT.out HO.out).mono ?_
  rintro e w1 ⟨rfl, hb1⟩
  have HB1 := Lib.hid hb1
  clear hb1
  by_cases hle : len ≤ 1400
  · go_wp2_with fail
    refine (DPress_calls A len cap bs _ (HR.out.below HB1.out) Hb.out HA.out hcap (by omega) (HT.out.below HB1.out) (fun j hj => kept_cell HB1.out (HO.out j hj))).mono ?_
    rintro e w2 ⟨v2, rfl, ho2, hb2⟩
    have HB2 := Lib.hid (below_seq HB1.out (Nat.le_refl _) hb2)
    have hbb : ∀ j, j < bs.length → 0 ≤ rd bs j ∧ rd bs j ≤ 255 := fun j hj => Hb.out j (by rw [← Hl.out]; exact hj)
    have hpp := pressB_pos bs (by rw [Hl.out]; omega)
    have hpl : (pressB bs).length ≤ len + 5 := by
      have h1 := (pressB_le bs).1
      have h2 := storedB_length (b := bs) (by rw [Hl.out]; omega)
      rw [h2, Hl.out] at h1
      exact h1
    obtain ⟨g2, c2, rfl, _, hg2, hc2, _, _⟩ := own_form ho2 hpp
    obtain ⟨_, _, e2, _, hr2⟩ := own_rd ho2
    cases e2
    have Hr2 := Lib.hid hr2
    have hp8 := pressB_byte (all_of_rd hbb)
    obtain ⟨n, hn⟩ : ∃ n, n = (pressB bs).length := ⟨_, rfl⟩
    rw [← hn] at Hr2 hpp hpl hc2 ⊢
    have Hn := Lib.hid hn
    have Hp8 := Lib.hid hp8
    have Hbb := Lib.hid hbb
    obtain ⟨k, hk, hkn⟩ := tmod_less Hc.out.1 hpp
    have hwc := wrap64_small Hc.out
    have Hk := Lib.hid hk
    clear ho2 hb2 hr2 hn hp8 hbb hk
    have hop := opens_press (b := bs) Hbb.out (by rw [Hl.out]; omega)
    have hrk : Rd w2 .u8 (some ⟨g2, 0, none⟩) k ((pressB bs).take k) := rd_take0 Hr2.out k (by omega)
    have hcutE : ∀ q2 o2, openS ((pressB bs).take k) len ≠ .ok (q2, o2) := by
      obtain ⟨q, h1, h2⟩ := hop [] [] [] (len : Int) (by rw [Hl.out]; simp)
      simp only [List.nil_append, List.append_nil, List.length_nil, Nat.mul_zero, Nat.zero_add] at h1 h2
      rw [← List.take_append_drop k (pressB bs)] at h1 h2
      exact open_front h1 h2 (fun e => by have := congrArg List.length e; rw [List.length_drop, ← Hn.out] at this; simp at this; omega)
    have HcutE := Lib.hid hcutE
    have Hrk := Lib.hid hrk
    have Hp8k : Hid (∀ j, j < k → 0 ≤ rd ((pressB bs).take k) j ∧ rd ((pressB bs).take k) j ≤ 255) := fun j hj => by rw [take_rd hj]; exact Hp8.out j (by rw [← Hn.out]; omega)
    have Hless : Hid (bs ≠ [] → openS (pressB bs) ((len : Int) - 1) = .error 4) := fun hne => by
      obtain ⟨q, h1, h2⟩ := hop [] [] [] (len : Int) (by rw [Hl.out]; simp)
      simp only [List.nil_append, List.append_nil, List.length_nil, Nat.mul_zero] at h1
      exact open_less h1 (by rw [Hl.out]; omega) hne
    have hkk := Hk.out
    clear hop hrk hcutE
    go_wp2_with fail
    refine (Open_calls (some ⟨g2, 0, none⟩) k c2 ((pressB bs).take k) len _ Hrk.out (fun e => by cases e) Hp8k.out (by omega) (by omega) (HT.out.below HB2.out) (fun j hj => kept_cell HB2.out (HO.out j hj))).mono ?_
    rintro e w3 ⟨Hx, hb3⟩
    have HB3 := Lib.hid (below_seq HB2.out (Nat.le_refl _) hb3)
    have Hr3 := Lib.hid (Hr2.out.below hb3)
    rcases Hx.out with ⟨q1, o1, v1, h1, rfl, ho1⟩ | ⟨c, h1, hc0, rfl⟩
    · exact absurd h1 (HcutE.out q1 o1)
    · have hc9 : (c == 0) = false := by simpa using hc0
      clear Hx h1 hb3 hkk
      go_wp2_with fail
      refine (Open_calls (some ⟨g2, 0, none⟩) n c2 (pressB bs) _ _ Hr3.out (fun e => by cases e) (fun j hj => Hp8.out j (by rw [← Hn.out]; exact hj)) (by omega) (by omega) (HT.out.below HB3.out) (fun j hj => kept_cell HB3.out (HO.out j hj))).mono ?_
      rintro e w4 ⟨Hx, hb4⟩
      have HB4 := Lib.hid (below_seq HB3.out (Nat.le_refl _) hb4)
      have Hcx := Lib.hid hc0
      clear hb4 hc0
      by_cases h0 : len = 0
      · have hl0 : ((len : Int) == 0) = true := by simpa using h0
        rcases Hx.out with ⟨q2, o2, v2, h2, rfl, ho2⟩ | ⟨c2', h2, hc2', rfl⟩
        · obtain ⟨A2, c2', rfl⟩ := own_slice ho2
          clear Hx h2 ho2
          go_wp2_with fail
          go_ret
          exact ⟨rfl, HB4.out⟩
        · clear Hx h2 hc2'
          go_wp2_with fail
          go_ret
          exact ⟨rfl, HB4.out⟩
      · have hl0 : ((len : Int) == 0) = false := by simpa using h0
        have hne : bs ≠ [] := fun e => h0 (by rw [← Hl.out, e]; rfl)
        have hl4 := Hless.out hne
        rcases Hx.out with ⟨q2, o2, v2, h2, rfl, ho2⟩ | ⟨c2', h2, hc2', rfl⟩
        · rw [hl4] at h2; cases h2
        · rw [hl4] at h2
          cases h2
          clear Hx hl4 hne hc2'
          go_wp2_with fail
          go_ret
          exact ⟨rfl, HB4.out⟩
  · go_wp2_with fail
    refine (awake10_calls _ (HT.out.below HB1.out) (fun j hj => kept_cell HB1.out (HO.out j hj))).mono ?_
    rintro e w2 ⟨rfl, hb2⟩
    have H2 := Lib.hid (below_seq HB1.out (Nat.le_refl _) hb2)
    clear hb2
    go_wp2
    go_ret
    exact ⟨rfl, H2.out⟩
theorem InflateCuts_walk (A : Option Addr) (len cap : Nat) (z : List Int) (cut : Int) (w : World) (h : IsRow .u8 w A len cap z) (y : len * 1 ≤ 140737488351232) (h2 : (Lit.int .u16 cut).wf = true) (hL : Tabs9 w) :
    Calls Tryd.prog 11 #[.slice A len cap, .int .u16 cut] w fun e w' => e = .returned (.bool true) ∧ Below w.heap.size w w' :=
  InflateCuts_calls A len cap (z.take len) cut w h.rd h.u8 (isRow_nil h) (isRow_le h) (by omega) (u16_of_wf h2) hL
end Go.Proofs.YtkjoncllnlmdgaaDoor
