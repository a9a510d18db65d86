/-
  Texts joined into one file: InfI, InflateBack.
-/
import Derived.Test.YtkjoncllnlmdgaaDoorJInfH9
/-
  One of several slices of bytes that are opened as b.
-/
namespace Go.Proofs.YtkjoncllnlmdgaaDoor
open Go.RowKit

theorem fixedS_few {bs : List Int} {len : Nat} (hl : bs.length = len) (hb : ∀ j, j < len → 0 ≤ rd bs j ∧ rd bs j ≤ 255) (hlen : len ≤ 3000) : (fixedS bs).length ≤ 400000 := by
  have h1 := toksTo_len fixA_rng fixB_rng (tokOk_press hl hb) (pressL bs).length (Nat.le_refl _)
  rw [toksTo_all] at h1
  have h2 := symCode_len fixA_rng 256
  have h3 := pressL_length bs
  unfold fixedS toksS
  rw [List.length_append, List.length_append]
  show 3 + (_ + _) ≤ _
  omega
theorem dynS_few {bs : List Int} {len : Nat} (hl : bs.length = len) (hb : ∀ j, j < len → 0 ≤ rd bs j ∧ rd bs j ≤ 255) (hlen : len ≤ 3000) : (dynS bs).length ≤ 400000 := by
  have h1 := toksTo_len (lenA_rng (pressL bs)) (lenD_rng (pressL bs)) (tokOk_press hl hb) (pressL bs).length (Nat.le_refl _)
  rw [toksTo_all] at h1
  have h2 := symCode_len (lenA_rng (pressL bs)) 256
  have h3 := pressL_length bs
  have h4 := putS_len (lenA (pressL bs)) (lenD (pressL bs)) (by rw [lenA_length]; decide) (by rw [lenA_length]; decide) (by rw [lenD_length]; decide) (by rw [lenD_length]; decide) (lenA_rng _) (lenD_rng _)
  unfold dynS toksS
  rw [List.length_append, List.length_append, List.length_append]
  show 3 + (_ + (_ + _)) ≤ _
  omega
/-- A slice of bytes that is a last block telling b. -/
structure Opens (W : World) (A : Option Addr) (m c : Nat) (bs : List Int) : Prop where
  is : ∃ Z, Rd W .u8 A m Z ∧ (A = none → m = 0 ∧ c = 0) ∧ m ≤ 100000 ∧ OpensTo Z bs ∧ (∀ x ∈ Z, 0 ≤ x ∧ x ≤ 255)
theorem Opens.below {W W' : World} {A : Option Addr} {m c : Nat} {bs : List Int} (h : Opens W A m c bs) (hb : Below W.heap.size W W') : Opens W' A m c bs := by
  obtain ⟨Z, h2, h3⟩ := h.is
  exact ⟨Z, h2.below hb, h3⟩
theorem Opens.of {W : World} {base n : Nat} {v : Value} {Z bs : List Int} (h : W.ownsRow base 5 1 v n (ints .u8 Z)) (hn : n ≤ 100000) (ho : OpensTo Z bs) (hz : ∀ j, j < Z.length → 0 ≤ rd Z j ∧ rd Z j ≤ 255) : ∃ A m c, v = .slice A m c ∧ Opens W A m c bs := by
  obtain ⟨A, c, rfl, _, hr⟩ := own_rd h
  exact ⟨A, n, c, rfl, Z, hr, own_none h, hn, ho, all_of_rd hz⟩
end Go.Proofs.YtkjoncllnlmdgaaDoor
/-
  The walk of the law InflateBack.
-/
namespace Go.Proofs.YtkjoncllnlmdgaaDoor
open Go.RowKit

set_option maxHeartbeats 1000000 in
set_option maxRecDepth 100000 in
theorem InflateBack_calls (A : Option Addr) (len cap : Nat) (bs : List Int) (B : Option Addr) (len2 cap2 : Nat) (ms : List Int) (w : World) (hR : Rd w .u8 A len bs) (hb : ∀ j, j < len → 0 ≤ rd bs j ∧ rd bs j ≤ 255) (hA : A = none → len = 0 ∧ cap = 0) (hcap : len ≤ cap) (hlen : len ≤ 140737488351232)
    (hR2 : Rd w .u8 B len2 ms) (hb2 : ∀ j, j < len2 → 0 ≤ rd ms j ∧ rd ms j ≤ 255) (hA2 : B = none → len2 = 0 ∧ cap2 = 0) (hlen2 : len2 ≤ 140737488351232) (hL : Tabs9 w) :
    Calls Tryd.prog 10 #[.slice A len cap, .slice B len2 cap2] w fun e w' => e = .returned (.bool true) ∧ Below w.heap.size w w' := by
  have HA := Lib.hid hA
  have HA2 := Lib.hid hA2
  have HT := Lib.hid hL.1
  have HO := Lib.hid hL.2
  have HR := Lib.hid hR
  have HR2 := Lib.hid hR2
  have Hb := Lib.hid hb
  have Hb2 := Lib.hid hb2
  have Hl := Lib.hid hR.1
  have Hbb : Hid (∀ j, j < bs.length → 0 ≤ rd bs j ∧ rd bs j ≤ 255) := Lib.hid (fun j hj => hb j (by rw [← Hl.out]; exact hj))
  have Hma : Hid (∀ x ∈ ms, 0 ≤ x ∧ x ≤ 255) := Lib.hid (all_of_rd (fun j hj => hb2 j (by rw [← hR2.1]; exact hj)))
  clear hR hb hL hA hR2 hb2 hA2
  go_enter Tryd.func10, Tryd.ntmps10
  go_wp2_with fail
  refine (awake10_calls _ HT.out HO.out).mono ?_
  rintro e w1 ⟨rfl, hb1⟩
  have HB1 := Lib.hid hb1
  clear hb1
  by_cases hle : len ≤ 2800
  · by_cases hle2 : len2 ≤ 700
    · go_wp2_with fail
      refine (DFixed_calls A len cap bs _ (HR.out.below HB1.out) Hb.out hcap (by omega) (HT.out.below HB1.out)).mono ?_
      rintro e w2 ⟨v2, rfl, ho2, -, hb2⟩
      generalize (((fixedS bs).length : Nat) : Int) = nf
      have HB2 := Lib.hid (below_seq HB1.out (Nat.le_refl _) hb2)
      obtain ⟨A2, m2, c2, rfl, hw2⟩ := Opens.of ho2.out (by have := fixedS_few Hl.out Hb.out (by omega); rw [packB_length]; omega) (opens_fixed Hbb.out) (fixedB_byte bs)
      have Hw2 := Lib.hid hw2
      clear hb2 ho2 hw2
      go_wp2_with fail
      refine (DDyn_calls A len cap bs _ (HR.out.below HB2.out) Hb.out hcap (by omega) (HT.out.below HB2.out) (fun j hj => kept_cell HB2.out (HO.out j hj))).mono ?_
      rintro e w3 ⟨v3, rfl, ho3, -, hb3⟩
      generalize (((dynS bs).length : Nat) : Int) = nd
      have HB3 := Lib.hid (below_seq HB2.out (Nat.le_refl _) hb3)
      have Hv2 := Lib.hid (Hw2.out.below hb3)
      obtain ⟨A3, m3, c3, rfl, hw3⟩ := Opens.of ho3.out (by have := dynS_few Hl.out Hb.out (by omega); rw [packB_length]; omega) (opens_dyn Hbb.out) (dynB_byte bs)
      have Hw3 := Lib.hid hw3
      clear hb3 ho3 hw3
      go_wp2_with fail
      refine (Stored_calls A len cap bs _ (HR.out.below HB3.out) (all_of_rd Hbb.out) HA.out hcap (by omega)).mono ?_
      rintro e w4 ⟨v4, rfl, ho4, hb4⟩
      have HB4 := Lib.hid (below_seq HB3.out (Nat.le_refl _) hb4)
      have hsl := storedB_length (b := bs) (by rw [Hl.out]; omega)
      rw [Hl.out] at hsl
      obtain ⟨A4, m4, c4, rfl, hw4⟩ := Opens.of ho4 (by rw [hsl]; omega) (opens_stored (by rw [Hl.out]; omega)) (storedB_byte (all_of_rd Hbb.out))
      have Hw4 := Lib.hid hw4
      have Hu2 := Lib.hid (Hv2.out.below hb4)
      have Hv3 := Lib.hid (Hw3.out.below hb4)
      clear hb4 ho4 hw4
      go_wp2_with fail
      refine (DPress_calls A len cap bs _ (HR.out.below HB4.out) Hb.out HA.out hcap (by omega) (HT.out.below HB4.out) (fun j hj => kept_cell HB4.out (HO.out j hj))).mono ?_
      rintro e w5 ⟨v5, rfl, ho5, hb5⟩
      have HB5 := Lib.hid (below_seq HB4.out (Nat.le_refl _) hb5)
      have hpl : (pressB bs).length ≤ len + 5 := by
        have h1 := (pressB_le bs).1
        rw [hsl] at h1
        exact h1
      obtain ⟨A5, m5, c5, rfl, hw5⟩ := Opens.of ho5 (by omega) (opens_press Hbb.out (by rw [Hl.out]; omega)) (pressB_byte (all_of_rd Hbb.out))
      have Hw5 := Lib.hid hw5
      have Ht2 := Lib.hid (Hu2.out.below hb5)
      have Hu3 := Lib.hid (Hv3.out.below hb5)
      have Hv4 := Lib.hid (Hw4.out.below hb5)
      clear hb5 ho5 hw5 hsl hpl Hw2 Hv2 Hu2 Hw3 Hv3 Hw4
      go_wp2_with fail
      obtain ⟨W6, hW6⟩ : ∃ W, W = w5.alloc (Obj.cells #[Value.slice A4 m4 c4, Value.slice A2 m2 c2, Value.slice A3 m3 c3, Value.slice A5 m5 c5] 22) := ⟨_, rfl⟩
      have hb6 : Below w5.heap.size w5 W6 := by rw [hW6]; exact (Below.refl _ _).alloc (Nat.le_refl _) _
      obtain ⟨g, hg⟩ : ∃ g, g = w5.heap.size := ⟨_, rfl⟩
      have hc6 : ∀ i, i < 4 → ∃ A m c, W6.cell? ⟨g, i, none⟩ = some (.slice A m c) ∧ Opens W6 A m c bs := by
        intro i hi
        have hn := news_at w5 #[Value.slice A4 m4 c4, Value.slice A2 m2 c2, Value.slice A3 m3 c3, Value.slice A5 m5 c5] 22
        rw [← hW6, ← hg] at hn
        rcases (show i = 0 ∨ i = 1 ∨ i = 2 ∨ i = 3 by omega) with rfl | rfl | rfl | rfl
        · exact ⟨A4, m4, c4, by have := hn 0 _ rfl; simpa [Addr.add] using this, Hv4.out.below hb6⟩
        · exact ⟨A2, m2, c2, by have := hn 1 _ rfl; simpa [Addr.add] using this, Ht2.out.below hb6⟩
        · exact ⟨A3, m3, c3, by have := hn 2 _ rfl; simpa [Addr.add] using this, Hu3.out.below hb6⟩
        · exact ⟨A5, m5, c5, by have := hn 3 _ rfl; simpa [Addr.add] using this, Hw5.out.below hb6⟩
      have HC6 := Lib.hid hc6
      have HB6 := Lib.hid (below_seq HB5.out (Nat.le_refl _) hb6)
      rw [← hW6, ← hg]
      clear hW6 hb6 hc6 hg Hv4 Ht2 Hu3 Hw5 HB5 HB4 HB3 HB2
      obtain ⟨K, hK⟩ : ∃ K : Nat, K = 4 := ⟨_, rfl⟩
      have HK := Lib.hid hK
      clear hK
      go_loopw [10] (fun i wr => ∃ j : Nat, j ≤ 4 ∧ i = .int .i64 j ∧ Hid (Below W6.heap.size W6 wr)) (fun i _ => K - (intOf i).toNat)
      case atStart => exact ⟨0, by omega, rfl, Below.refl _ _⟩
      case round =>
        obtain ⟨j, hj, rfl, HBr⟩ := hrel
        obtain ⟨W7, hW7⟩ : ∃ W, W = wr := ⟨_, rfl⟩
        subst hW7
        have HB7 := Lib.hid (below_seq HB6.out (Nat.le_refl _) HBr.out)
        by_cases hlt : j < 4
        · obtain ⟨A, m, c, hc, ho⟩ := HC6.out j hlt
          obtain ⟨Z, hz, hN, hm, hop, hzb⟩ := (ho.below HBr.out).is
          have hc7 := kept_cell HBr.out hc
          have hc8 : (W7.alloc (Obj.cells #[] 5)).cell? ⟨g, j, none⟩ = some (.slice A m c) := kept_new hc7 _
          obtain ⟨q, hq, hq8⟩ := openS_one (Z := ms) (most := (len : Int)) hop (by rw [Hl.out]; exact Int.le_refl _)
          rw [hz.1] at hq8
          have HZ := Lib.hid hz
          have HN := Lib.hid hN
          have Hop := Lib.hid hop
          have Hzb := Lib.hid hzb
          have Hq := Lib.hid hq
          have Hq8 := Lib.hid hq8
          have Hc7 := Lib.hid hc7
          obtain ⟨T, hT⟩ : ∃ T, T = m + len2 := ⟨_, rfl⟩
          have hTl : T ≤ 200000 := by omega
          have HTm := Lib.hid hT
          clear hz hN hop hzb hq hq8 hc ho hc7 hT
          go_wp2_with (first
            | (at_builtin; refine wpList_appRd rfl _ _ rfl elB (ys := []) (own_empty W7 _) rfl rfl (HZ.out.alloc _) HN.out (by omega) (by simp) ?_; intro v8 w8 hown8 hg8; rw [Nat.zero_add, List.nil_append] at hown8; have hb8 : Below W7.heap.size W7 w8 := ((Below.refl _ _).alloc (Nat.le_refl _) _).grown hg8 (by simp) (fun k hk => by simp [Value.ownBlock] at hk; omega))
            | (at_builtin; refine wpList_appRd rfl _ _ rfl elB hown8 rfl rfl ((HR2.out.below HB7.out).below hb8) HA2.out (by omega) hb8.size ?_; intro v9 w9 hown9 hg9; have hb9 : Below W7.heap.size W7 w9 := hb8.grown hg9 hb8.size (fun k hk => (hown8.lt k hk).1); rw [← HTm.out] at hown9; obtain ⟨A9, c9, rfl, _, hr9⟩ := own_rd hown9; have HN9 := Lib.hid (own_none hown9); have Hr9 := Lib.hid hr9; have Hb9 := Lib.hid hb9; clear hown8 hg8 hb8 hown9 hg9 hb9 hr9))
          have HB9 := Lib.hid (below_seq HB7.out (Nat.le_refl _) Hb9.out)
          have Hz9 := HZ.out.1
          refine (Open_calls A9 T c9 (Z ++ ms) len _ Hr9.out HN9.out (fun i hi => rd_bytes (l := Z ++ ms) (fun x hx => (List.mem_append.1 hx).elim (Hzb.out x) (Hma.out x)) i (by rw [Hr9.out.1]; exact hi)) (by omega) (by omega) (HT.out.below HB9.out) (fun j hj => kept_cell HB9.out (HO.out j hj))).mono ?_
          rintro e w10 ⟨Hx, hb10⟩
          have hb70 := below_seq Hb9.out (Nat.le_refl _) hb10
          have hc10 := kept_cell hb70 Hc7.out
          have HB70 := Lib.hid (below_seq HBr.out (Nat.le_refl _) hb70)
          have HB10 := Lib.hid (below_seq HB7.out (Nat.le_refl _) hb70)
          rcases Hx.out with ⟨q2, o2, v2, h2, rfl, ho2⟩ | ⟨c2', h2, hc2', rfl⟩
          · rw [Hq.out] at h2
            cases h2
            rw [Hq8.out]
            obtain ⟨A8, c8, rfl, _, hr8⟩ := own_rd ho2
            rw [Hl.out] at hr8 ⊢
            have cv1 := conv_all (c := c8) hr8
            have cv2 := conv_all (c := cap) (HR.out.below HB10.out)
            clear hb10 hb70 Hx ho2 hr8 Hz9 hc8
            go_wp2_with fail
            go_roundw
            case rel => exact ⟨j + 1, by omega, by go_num, HB70.out⟩
            case measure => simp [intOf]; have := HK.out; omega
          · rw [Hq.out] at h2; cases h2
        · obtain rfl : j = 4 := by omega
          go_wp2
          go_ret
          exact ⟨rfl, HB7.out⟩
    · go_wp2_with fail
      refine (awake10_calls _ (HT.out.below HB1.out) (fun j hj => kept_cell HB1.out (HO.out j hj))).mono ?_
      rintro e w2 ⟨rfl, hb2⟩
      have H2 := Lib.hid (below_seq HB1.out (Nat.le_refl _) hb2)
      clear hb2
      go_wp2
      go_ret
      exact ⟨rfl, H2.out⟩
  · go_wp2_with fail
    refine (awake10_calls _ (HT.out.below HB1.out) (fun j hj => kept_cell HB1.out (HO.out j hj))).mono ?_
    rintro e w2 ⟨rfl, hb2⟩
    have H2 := Lib.hid (below_seq HB1.out (Nat.le_refl _) hb2)
    clear hb2
    go_wp2
    go_ret
    exact ⟨rfl, H2.out⟩
theorem InflateBack_walk (A : Option Addr) (len cap : Nat) (z : List Int) (B : Option Addr) (len2 cap2 : Nat) (z2 : List Int) (w : World) (h : IsRow .u8 w A len cap z) (y : len * 1 ≤ 140737488351232) (h2 : IsRow .u8 w B len2 cap2 z2) (y2 : len2 * 1 ≤ 140737488351232) (hL : Tabs9 w) :
    Calls Tryd.prog 10 #[.slice A len cap, .slice B len2 cap2] w fun e w' => e = .returned (.bool true) ∧ Below w.heap.size w w' :=
  InflateBack_calls A len cap (z.take len) B len2 cap2 (z2.take len2) w h.rd h.u8 (isRow_nil h) (isRow_le h) (by omega) h2.rd h2.u8 (isRow_nil h2) (by omega) hL
end Go.Proofs.YtkjoncllnlmdgaaDoor
