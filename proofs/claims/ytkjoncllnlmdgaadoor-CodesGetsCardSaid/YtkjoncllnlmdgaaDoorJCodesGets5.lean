/-
  Texts joined into one file: Num, HuffR, RefN, HuffS, Last.
-/
import Derived.Test.YtkjoncllnlmdgaaDoorJCodesGets4
import Derived.Test.YtkjoncllnlmdgaaDoorJCodesGets2
import Derived.Test.YtkjoncllnlmdgaaDoorJCodesGets3
import Derived.IntWalk
import Derived.BigQuiet
import Derived.Test.YtkjoncllnlmdgaaDoorJCodesGets1
import Derived.Deep.RegionHeld3
/-
  The walks of the reference's Num and order; parts of the bits.
-/
namespace Go.Proofs.YtkjoncllnlmdgaaDoor
open Go.RowKit

theorem bits_part {w : World} {b o m : Nat} {bs : List Int} {p : Nat} (h : Rd w .u8 (some ⟨b, o, none⟩) m (bitsOf bs p m)) (k j : Nat) (hk : k + j ≤ m) : Rd w .u8 (some ⟨b, o + k, none⟩) j (bitsOf bs (p + k) j) :=
  ⟨by rw [bitsOf_length], fun hj => ⟨b, o + k, rfl, fun i hi => by
    obtain ⟨b', o', e, hc⟩ := h.2 (by omega)
    cases e
    have h9 := hc (k + i) (by omega)
    rw [rd_bitsOf (by omega)] at h9
    rw [rd_bitsOf hi, Nat.add_assoc, Nat.add_assoc]
    exact h9⟩⟩
theorem bits_none {w : World} {A : Option Addr} {bs : List Int} (p : Nat) : Rd w .u8 A 0 (bitsOf bs p 0) := ⟨by rw [bitsOf_length], fun h => by omega⟩
set_option maxHeartbeats 1000000 in
theorem Num_calls (A : Option Addr) (m c p : Nat) (bs : List Int) (w : World) (hA : Rd w .u8 A m (bitsOf bs p m)) (hm : m ≤ 60) :
    Calls Tryd.prog 42 #[.slice A m c] w fun e w' => e = .returned (.int .u64 (numAt bs p m : Nat)) ∧ w = w' := by
  have HA := Lib.hid hA
  clear hA
  go_enter Tryd.func42, Tryd.ntmps42
  go_wp2
  go_loop [3, 4] (fun x i => ∃ k j : Nat, k + j = m ∧ i = .int .i64 ((k : Int) - 1) ∧ x = .int .u64 (numAt bs (p + k) j : Nat)) (fun _ i => (intOf i + 1).toNat)
  case atStart => exact ⟨m, 0, by omega, rfl, rfl⟩
  case round =>
    obtain ⟨k, j, hk, rfl, rfl⟩ := hrel
    by_cases hlt : 0 < k
    · obtain ⟨b, o, rfl, hc⟩ := HA.out.2 (by omega)
      have z := hc (k - 1) (by omega)
      rw [rd_bitsOf (by omega)] at z
      have hx := numAt_lt bs (p + k) j
      have hpow : (2 : Nat) ^ j ≤ 2 ^ 60 := Nat.pow_le_pow_right (by omega) (by omega)
      have hp60 : (2 : Nat) ^ 60 = 1152921504606846976 := by decide
      have hbt := bitAt_le bs (p + (k - 1))
      have hcons := numAt_cons bs (p + (k - 1)) j
      rw [show p + (k - 1) + 1 = p + k from by omega] at hcons
      obtain ⟨X, hX⟩ : ∃ X, X = numAt bs (p + k) j := ⟨_, rfl⟩
      obtain ⟨Y, hY⟩ : ∃ Y, Y = bitAt bs (p + (k - 1)) := ⟨_, rfl⟩
      rw [← hX, ← hY] at hcons
      rw [← hX] at hx ⊢
      rw [← hY] at z hbt
      have Hcons := Lib.hid hcons
      have hX2 : X ≤ 1152921504606846976 := by omega
      have s1 : ((k : Int) - 1).toNat = k - 1 := by omega
      have s2 : (0 : Int) ≤ (k : Int) - 1 := by omega
      clear hc hcons hX hY hx hpow hp60
      go_wp2
      go_round
      case rel => exact ⟨k - 1, j + 1, by omega, by rw [show (((k - 1 : Nat) : Int)) = (k : Int) - 1 from by omega], by rw [Hcons.out]; go_num⟩
      case measure => simp [intOf]; omega
    · obtain rfl : k = 0 := by omega
      obtain rfl : j = m := by omega
      go_wp2
      go_ret
      exact ⟨rfl, rfl⟩
set_option maxHeartbeats 1000000 in
set_option maxRecDepth 100000 in
theorem order_calls (w : World) :
    Calls Tryd.prog 43 #[] w fun e w' => ∃ g, e = .returned (.slice (some ⟨g, 0, none⟩) 19 19) ∧ (∀ j, j < 19 → w'.cell? ⟨g, j, none⟩ = some (.int .i64 (ordL.getD j 0 : Nat))) ∧ Below w.heap.size w w' := by
  go_enter Tryd.func43, Tryd.ntmps43
  go_wp2
  go_ret
  refine ⟨w.heap.size, rfl, fun j hj => ?_, (Below.refl _ _).alloc (Nat.le_refl _) _⟩
  have key : ∀ j : Nat, j < 19 → (#[Value.int .i64 16, .int .i64 17, .int .i64 18, .int .i64 0, .int .i64 8, .int .i64 7, .int .i64 9, .int .i64 6, .int .i64 10, .int .i64 5, .int .i64 11, .int .i64 4, .int .i64 12, .int .i64 3, .int .i64 13, .int .i64 2, .int .i64 14, .int .i64 1, .int .i64 15].toList)[j]? = some (Value.int .i64 (ordL.getD j 0 : Nat)) := by
    intro j hj
    have : j = 0 ∨ j = 1 ∨ j = 2 ∨ j = 3 ∨ j = 4 ∨ j = 5 ∨ j = 6 ∨ j = 7 ∨ j = 8 ∨ j = 9 ∨ j = 10 ∨ j = 11 ∨ j = 12 ∨ j = 13 ∨ j = 14 ∨ j = 15 ∨ j = 16 ∨ j = 17 ∨ j = 18 := by omega
    rcases this with rfl | rfl | rfl | rfl | rfl | rfl | rfl | rfl | rfl | rfl | rfl | rfl | rfl | rfl | rfl | rfl | rfl | rfl | rfl <;> rfl
  have h := news_at w _ 3 j _ (key j hj)
  rw [addr_add, Nat.zero_add] at h
  exact h
end Go.Proofs.YtkjoncllnlmdgaaDoor
/-
  The walks of the document's Right and Codes (inkwellref05).
-/
namespace Go.Proofs.YtkjoncllnlmdgaaDoor
open Go.RowKit

/-- Code and last length, ahead of symbol s in the round of length k. -/
def CodeInv (xs : List Int) (k s : Nat) (code : Int) (last : Nat) : Prop :=
  (last = 0 ∧ code = 0 ∧ nextCode xs k s = 0) ∨ (0 < last ∧ last ≤ k ∧ 0 ≤ code ∧ (code + 1) * 2 ^ (k - last) = nextCode xs k s)
theorem CodeInv.miss {xs : List Int} {k s last : Nat} {code : Int} (h : CodeInv xs k s code last) (hs : s < xs.length) (hx : rd xs s ≠ k) : CodeInv xs k (s + 1) code last := by
  have e : nextCode xs k (s + 1) = nextCode xs k s := by unfold nextCode; rw [before_miss xs k s hs hx]
  unfold CodeInv at *
  rw [e]
  exact h
theorem CodeInv.hit {xs : List Int} {k s : Nat} (hs : s < xs.length) (hx : rd xs s = k) (hk : 0 < k) (h0 : 0 ≤ nextCode xs k s) : CodeInv xs k (s + 1) (nextCode xs k s) k := by
  have e : nextCode xs k (s + 1) = nextCode xs k s + 1 := by unfold nextCode; rw [before_hit xs k s hs hx]; omega
  refine .inr ⟨hk, Nat.le_refl _, h0, ?_⟩
  rw [e, Nat.sub_self]
  omega
theorem CodeInv.over {xs : List Int} {k last : Nat} {code : Int} (h : CodeInv xs k xs.length code last) (hk : 0 < k) (hk2 : k < 16) : CodeInv xs (k + 1) 0 code last := by
  have e := nextCode_over xs k hk hk2
  rcases h with ⟨h1, h2, h3⟩ | ⟨h1, h2, h3, h4⟩
  · exact .inl ⟨h1, h2, by rw [e, h3]; rfl⟩
  · refine .inr ⟨h1, by omega, h3, ?_⟩
    rw [e, ← h4, show k + 1 - last = (k - last) + 1 from by omega, Int.pow_succ, ← Int.mul_assoc, Int.mul_comm]

theorem elU64r : ElT Tryd.prog 80 58 (.int .u64 0) 1 8 := elU64
set_option maxHeartbeats 2000000 in
set_option maxRecDepth 200000 in
theorem refCodes_calls (A : Option Addr) (n cap : Nat) (xs : List Int) (w : World) (hR : Rd w .i64 A n xs) (hn : n ≤ 1000000) :
    Calls Tryd.prog 77 #[.slice A n cap] w fun e w' => ∃ v, e = .returned v ∧ w'.ownsRow w.heap.size 58 1 v n (ints .u64 (codesOf xs)) ∧ Below w.heap.size w w' := by
  have HR := Lib.hid hR
  have hlen := Lib.hid hR.1
  clear hR
  go_enter Tryd.func77, Tryd.ntmps77
  go_wp2_with (at_make; refine wpList_mk1 (base := w.heap.size) (n := n) _ rfl _ _ rfl elU64 rfl rfl rfl rfl (by omega) (Nat.le_refl _) ?_; intro w4 hown4 hb4 hsz4)
  have Hown4 := Lib.hid hown4
  have Hb4 := Lib.hid hb4
  clear hown4 hb4
  go_loopw [4, 5, 6] (fun x y i wr => ∃ (k last : Nat) (code : Int) (l : List Int), 1 ≤ k ∧ k ≤ 16 ∧ i = .int .i64 k ∧ x = .int .u64 code ∧ y = .int .i64 last ∧ Hid (CodeInv xs k 0 code last) ∧ wr.ownsRow w.heap.size 58 1 (.slice (some ⟨w.heap.size, 0, none⟩) n n) n (ints .u64 l) ∧ Hid (∀ j, j < n → rd l j = if 0 < rd xs j ∧ rd xs j < k then codeAt xs j else 0) ∧ Below w.heap.size w wr) (fun _ _ i _ => 16 - (intOf i).toNat)
  case atStart =>
    refine ⟨1, 0, 0, _, by omega, by omega, rfl, rfl, rfl, .inl ⟨rfl, rfl, nextCode_one xs⟩, Hown4.out, ?_, Hb4.out⟩
    intro j hj
    rw [if_neg (by omega), rd_getElem (by rw [List.length_replicate]; exact hj), List.getElem_replicate]
  case round =>
    obtain ⟨k, last, code, l, hk1, hk2, rfl, rfl, rfl, Hinv, hown, Hl, hbel⟩ := hrel
    have Hown := Lib.hid hown
    have Hbel := Lib.hid hbel
    clear hown hbel
    by_cases hlt : k ≤ 15
    · obtain ⟨wo, hwo⟩ : ∃ wo : World, wo = wr := ⟨_, rfl⟩
      subst hwo
      go_wp2
      go_loopw [4, 5, 7] (fun x y i wr => ∃ (s last : Nat) (code : Int) (l : List Int), s ≤ n ∧ i = .int .i64 s ∧ x = .int .u64 code ∧ y = .int .i64 last ∧ Hid (CodeInv xs k s code last) ∧ wr.ownsRow w.heap.size 58 1 (.slice (some ⟨w.heap.size, 0, none⟩) n n) n (ints .u64 l) ∧ Hid (∀ j, j < n → rd l j = if 0 < rd xs j ∧ (rd xs j < k ∨ (rd xs j = k ∧ j < s)) then codeAt xs j else 0) ∧ Below w.heap.size w wr) (fun _ _ i _ => n - (intOf i).toNat)
      case atStart =>
        refine ⟨0, last, code, l, by omega, rfl, rfl, rfl, Hinv, Hown.out, ?_, Hbel.out⟩
        intro j hj
        rw [Hl.out j hj]
        by_cases g : 0 < rd xs j ∧ rd xs j < k
        · rw [if_pos g, if_pos ⟨g.1, .inl g.2⟩]
        · rw [if_neg g, if_neg (by omega)]
      case round =>
        obtain ⟨s, last, code, l, hs, rfl, rfl, rfl, Hinv, hown, Hl, hbel⟩ := hrel
        have hll : l.length = n := by have := hown.1; simpa [ints] using this
        have Hown := Lib.hid hown
        have Hbel := Lib.hid hbel
        clear hown hbel
        by_cases hlt2 : s < n
        · obtain ⟨b, o, rfl, hcx⟩ := HR.out.2 (by omega)
          have z := kept_cell Hbel.out (hcx s hlt2)
          clear hcx
          cases hx : (rd xs s != (k : Int))
          · have hxk : rd xs s = k := by simpa using hx
            have HX := Lib.hid hxk
            have hv := nextCode_range xs k s (by omega)
            rw [hlen.out] at hv
            have xc := Hown.out.cellAt s (by omega)
            rw [ints_get (by omega)] at xc
            have xf := Hown.out.frozenAt s
            have hnew := Lib.hid (CodeInv.hit (by rw [hlen.out]; exact hlt2) hxk (by omega) hv.1)
            have e1 : codeAt xs s = nextCode xs k s := by
              unfold codeAt
              rw [if_pos (by omega), hxk]
              rfl
            have E1 := Lib.hid e1
            have Hl3 : Hid (∀ j, j < n → rd (l.set s (nextCode xs k s)) j = if 0 < rd xs j ∧ (rd xs j < k ∨ (rd xs j = k ∧ j < s + 1)) then codeAt xs j else 0) := fun j hj => by
              rw [rd_set (by omega)]
              by_cases g2 : s = j
              · subst g2; rw [if_pos rfl, if_pos (by omega), E1.out]
              · rw [if_neg g2, Hl.out j hj]
                by_cases g : 0 < rd xs j ∧ (rd xs j < k ∨ (rd xs j = k ∧ j < s))
                · rw [if_pos g, if_pos (by omega)]
                · rw [if_neg g, if_neg (by omega)]
            rcases Hinv.out with ⟨i1, i2, i3⟩ | ⟨i1, i2, i3, i4⟩
            · subst i1 i2
              rw [i3] at hnew Hl3
              clear hxk e1 hv i3
              go_wp2
              go_roundw
              case rel =>
                exact ⟨s + 1, k, 0, l.set s 0, by omega, by go_num, rfl, rfl, hnew, by rw [ints_set]; exact (Hown.out.stored s _).1, Hl3, Hbel.out.setCell (Nat.le_refl _) _⟩
              case measure => simp [intOf]; omega
            · have hle : code + 1 ≤ (code + 1) * 2 ^ (k - last) := by
                have h1 : (1 : Int) ≤ 2 ^ (k - last) := by
                  have : (1 : Nat) ≤ 2 ^ (k - last) := Nat.one_le_two_pow
                  exact_mod_cast this
                have h2 := Int.mul_le_mul_of_nonneg_left h1 (show 0 ≤ code + 1 by omega)
                rw [Int.mul_one] at h2
                exact h2
              have ev : IntKind.u64.wrap (IntKind.u64.wrap (code + 1) * 2 ^ (k - last)) = nextCode xs k s := by
                rw [IntWalk.u64_in (code + 1) (by rw [i4] at hle; omega), i4]
                exact IntWalk.u64_in _ (by omega)
              have Ev := Lib.hid ev
              clear hxk e1 i4 hle ev
              go_wp2
              rw [Ev.out]
              go_roundw
              case rel =>
                exact ⟨s + 1, k, nextCode xs k s, l.set s (nextCode xs k s), by omega, by go_num, rfl, rfl, hnew, by rw [ints_set]; exact (Hown.out.stored s _).1, Hl3, Hbel.out.setCell (Nat.le_refl _) _⟩
              case measure => simp [intOf]; omega
          · have hxk : rd xs s ≠ k := by simpa using hx
            have hnew := Lib.hid (CodeInv.miss Hinv.out (by rw [hlen.out]; exact hlt2) hxk)
            have Hx := Lib.hid hxk
            clear hxk
            go_wp2
            go_roundw
            case rel =>
              refine ⟨s + 1, last, code, l, by omega, by go_num, rfl, rfl, hnew, Hown.out, ?_, Hbel.out⟩
              intro j hj
              rw [Hl.out j hj]
              by_cases g2 : s = j
              · subst g2
                have := Hx.out
                by_cases g : 0 < rd xs s ∧ (rd xs s < k ∨ (rd xs s = k ∧ s < s))
                · rw [if_pos g, if_pos (by omega)]
                · rw [if_neg g, if_neg (by omega)]
              · by_cases g : 0 < rd xs j ∧ (rd xs j < k ∨ (rd xs j = k ∧ j < s))
                · rw [if_pos g, if_pos (by omega)]
                · rw [if_neg g, if_neg (by omega)]
            case measure => simp [intOf]; omega
        · have hsn : s = n := by omega
          have hinv := Hinv.out
          rw [hsn, ← hlen.out] at hinv
          have hover := Lib.hid (CodeInv.over hinv (by omega) (by omega))
          clear hinv
          go_wp2
          go_roundw
          case rel =>
            refine ⟨k + 1, last, code, l, by omega, by omega, by go_num, rfl, rfl, hover, Hown.out, ?_, Hbel.out⟩
            intro j hj
            rw [Hl.out j hj]
            by_cases g : 0 < rd xs j ∧ (rd xs j < k ∨ (rd xs j = k ∧ j < s))
            · rw [if_pos g, if_pos (by omega)]
            · rw [if_neg g, if_neg (by omega)]
          case measure => simp [intOf]; omega
    · have hk16 : k = 16 := by omega
      have hll : l.length = n := by have := Hown.out.1; simpa [ints] using this
      have e : l = codesOf xs := ext_rd (by rw [hll, codesOf_length, hlen.out]) (fun j hj => by
        rw [Hl.out j (by omega), rd_codesOf _ _ (by rw [hlen.out]; omega)]
        by_cases g : 0 < rd xs j ∧ rd xs j < k
        · rw [if_pos g]
        · rw [if_neg g]
          unfold codeAt
          rw [if_neg (by omega)])
      subst e
      clear hk16
      go_wp2
      go_ret
      exact ⟨_, rfl, Hown.out, Hbel.out⟩
end Go.Proofs.YtkjoncllnlmdgaaDoor
/-
  The walk of the reference's Next.
-/
namespace Go.Proofs.YtkjoncllnlmdgaaDoor
open Go.RowKit

set_option maxHeartbeats 2000000 in
set_option maxRecDepth 100000 in
theorem refNext_calls (A : Option Addr) (n cap : Nat) (xs : List Int) (B : Option Addr) (m d p : Nat) (ys bs : List Int) (w : World) (hR : Rd w .i64 A n xs) (hn : n ≤ 1000000) (hok : lensOk xs = true) (hB : Rd w .u8 B m ys) (hy : ∀ i, i < m → rd ys i = ((bitAt bs (p + i) : Nat) : Int)) (hm : m ≤ 10000000) :
    Calls Tryd.prog 45 #[.slice A n cap, .slice B m d] w fun e w' =>
      ((∃ s : Nat, Hit xs bs p m s ∧ e = .returned (.tuple #[.int .i64 s, .int .i64 (rd xs s)])) ∨ ((∀ s, ¬ Hit xs bs p m s) ∧ e = .returned (.tuple #[.int .i64 (-1), .int .i64 0]))) ∧ Below w.heap.size w w' := by
  have HR := Lib.hid hR
  have HB := Lib.hid hB
  have Hy := Lib.hid hy
  have hxl := Lib.hid hR.1
  have Hok := Lib.hid hok
  clear hR hB hy hok
  go_enter Tryd.func45, Tryd.ntmps45
  go_wp2_with fail
  refine (refCodes_calls A n cap xs _ HR.out hn).mono ?_
  rintro e w1 ⟨v1, rfl, ho1, hb1⟩
  obtain ⟨C1, c1, rfl, _, hc1⟩ := own_rd ho1
  have HR1 := Lib.hid (HR.out.below hb1)
  have HB1 := Lib.hid (HB.out.below hb1)
  have Hc1 := Lib.hid hc1
  have Hb1 := Lib.hid hb1
  clear ho1 hc1 hb1
  go_wp2
  go_loop [7] (fun i => ∃ k : Nat, k ≤ n ∧ i = .int .i64 k ∧ Hid (∀ t, t < k → ¬ Hit xs bs p m t)) (fun i => n - (intOf i).toNat)
  case atStart => exact ⟨0, by omega, rfl, fun t ht => by omega⟩
  case round =>
    obtain ⟨k, hk, rfl, Hno⟩ := hrel
    by_cases hlt : k < n
    · obtain ⟨b, o, rfl, hcx⟩ := HR1.out.2 (by omega)
      have z := hcx k hlt
      clear hcx
      have hrng := lensOk_at Hok.out k (by rw [hxl.out]; exact hlt)
      obtain ⟨L, hL⟩ : ∃ L : Nat, rd xs k = L := ⟨(rd xs k).toNat, by omega⟩
      rw [hL] at z hrng
      have HL := Lib.hid hL
      clear hL
      have next : Hid (¬ Hit xs bs p m k → ∀ t, t < k + 1 → ¬ Hit xs bs p m t) := fun h t ht => by
        by_cases e : t < k
        · exact Hno.out t e
        · rw [show t = k from by omega]; exact h
      by_cases h0 : L = 0
      · subst h0
        go_wp2
        go_round
        case rel => exact ⟨k + 1, by omega, by go_num, next.out (fun h => by have := h.2.1; rw [HL.out] at this; omega)⟩
        case measure => simp [intOf]; omega
      · have d0 : ((L : Int) == 0) = false := by simp; omega
        by_cases hLm : m < L
        · go_wp2
          go_round
          case rel => exact ⟨k + 1, by omega, by go_num, next.out (fun h => by have := h.2.2.2.1; rw [HL.out] at this; omega)⟩
          case measure => simp [intOf]; omega
        · go_wp2
          go_loop [9, 10] (fun c i => ∃ j : Nat, j ≤ L ∧ i = .int .i64 j ∧ c = .int .u64 (codeTo bs p j : Nat)) (fun _ i => L - (intOf i).toNat)
          case atStart => exact ⟨0, by omega, rfl, rfl⟩
          case round =>
            obtain ⟨j, hj, rfl, rfl⟩ := hrel
            by_cases hlt2 : j < L
            · obtain ⟨b2, o2, rfl, hc2⟩ := HB1.out.2 (by omega)
              have y := hc2 j (by omega)
              rw [Hy.out j (by omega)] at y
              clear hc2
              have hcl := codeTo_lt bs p j
              have hpow : (2 : Nat) ^ j ≤ 2 ^ 15 := Nat.pow_le_pow_right (by omega) (by omega)
              have hp15 : (2 : Nat) ^ 15 = 32768 := by decide
              have hcl2 : codeTo bs p j ≤ 32768 := by omega
              have hbt := bitAt_le bs (p + j)
              have hcode : codeTo bs p (j + 1) = 2 * codeTo bs p j + bitAt bs (p + j) := rfl
              obtain ⟨C, hC⟩ : ∃ C, C = codeTo bs p j := ⟨_, rfl⟩
              obtain ⟨D, hD⟩ : ∃ D, D = bitAt bs (p + j) := ⟨_, rfl⟩
              rw [← hC, ← hD] at hcode
              rw [← hC] at hcl2 ⊢
              rw [← hD] at y hbt
              have Hcode := Lib.hid hcode
              clear hcl hpow hp15 hC hD hcode
              go_wp2
              go_round
              case rel => exact ⟨j + 1, by omega, by go_num, by rw [Hcode.out]; go_num⟩
              case measure => simp [intOf]; omega
            · obtain rfl : j = L := by omega
              obtain ⟨b3, o3, rfl, hc3⟩ := Hc1.out.2 (by omega)
              have y := hc3 k hlt
              rw [rd_codesOf xs k (by rw [hxl.out]; exact hlt)] at y
              clear hc3
              have hit : Hid (((codeTo bs p j : Nat) : Int) = codeAt xs k ↔ Hit xs bs p m k) := by
                refine ⟨fun h => ⟨by rw [hxl.out]; exact hlt, by rw [HL.out]; omega, by rw [HL.out]; omega, by rw [HL.out]; omega, by rw [HL.out]; exact h⟩, fun h => ?_⟩
                have h5 := h.2.2.2.2
                rw [HL.out] at h5
                exact h5
              by_cases hcc : ((codeTo bs p j : Nat) : Int) = codeAt xs k
              · have hH := Lib.hid (hit.out.1 hcc)
                go_wp2
                refine bodyPost_ret (v := .tuple #[.int .i64 k, .int .i64 j]) (by simp [results, Tryd.results45, go_sem]) rfl ⟨.inl ⟨k, hH.out, by rw [HL.out]⟩, Hb1.out⟩
              · have hH := Lib.hid (fun h => hcc (hit.out.2 h))
                have d1 : (((codeTo bs p j : Nat) : Int) == codeAt xs k) = false := by simpa using hcc
                go_wp2
                go_round
                case rel => exact ⟨k + 1, by omega, by go_num, next.out hH.out⟩
                case measure => simp [intOf]; omega
    · obtain rfl : k = n := by omega
      go_wp2
      refine bodyPost_ret (v := .tuple #[.int .i64 (-1), .int .i64 0]) (by simp [results, Tryd.results45, go_sem]) rfl ⟨.inr ⟨fun s hs => Hno.out s (by have := hs.1; rw [hxl.out] at this; exact this) hs, rfl⟩, Hb1.out⟩
end Go.Proofs.YtkjoncllnlmdgaaDoor
/-
  The walk of the document's Right (inkwellref05).
-/
namespace Go.Proofs.YtkjoncllnlmdgaaDoor
open Go.RowKit

theorem shr_len : ∀ k : Nat, k ≤ 15 → (32768 : Int) / 2 ^ k = 2 ^ (15 - k) := by decide +kernel
theorem lensOk_cell {xs : List Int} (s : Nat) (hs : s < xs.length) (h : ¬ (0 ≤ rd xs s ∧ rd xs s ≤ 15)) : lensOk xs = false := by
  unfold lensOk
  rw [List.all_eq_false]
  exact ⟨xs[s], List.getElem_mem _, by rw [← rd_getElem hs]; simpa using h⟩
theorem befores_le (xs : List Int) (s j : Nat) : 0 ≤ befores xs s j ∧ befores xs s j ≤ s := by
  have := before_le xs j s
  unfold befores
  omega
theorem pow_15_le : ∀ k : Nat, k ≤ 15 → (0 : Int) ≤ 2 ^ (15 - k) ∧ (2 : Int) ^ (15 - k) ≤ 32768 := by decide +kernel
set_option maxHeartbeats 1000000 in
set_option maxRecDepth 100000 in
theorem refRight_calls (A : Option Addr) (n cap : Nat) (xs : List Int) (w : World) (hR : Rd w .i64 A n xs) (hn : n ≤ 1000000) :
    Calls Tryd.prog 44 #[.slice A n cap] w fun e w' => e = .returned (.bool (rightB xs)) ∧ Below w.heap.size w w' := by
  have HR := Lib.hid hR
  have hlen := Lib.hid hR.1
  have Heq := Lib.hid (rightR_eq xs)
  clear hR
  go_enter Tryd.func44, Tryd.ntmps44
  go_wp2
  go_loop [3, 4, 5, 6] (fun a b c i => ∃ s : Nat, s ≤ n ∧ i = .int .i64 s ∧ a = .int .i64 (sumR xs s) ∧ b = .int .i64 (manyR xs s) ∧ c = .int .i64 (befores xs s 1) ∧ Hid (lensOk (xs.take s) = true) ∧ 0 ≤ sumR xs s ∧ sumR xs s ≤ 32768 * s ∧ 0 ≤ manyR xs s ∧ manyR xs s ≤ s) (fun _ _ _ i => n - (intOf i).toNat)
  case atStart => exact ⟨0, by omega, rfl, by rw [sumR_start], by rw [manyR_start], by unfold befores; rw [before_zero]; rfl, rfl, by rw [sumR_start]; omega, by rw [sumR_start]; omega, by rw [manyR_start]; omega, by rw [manyR_start]; omega⟩
  case round =>
    obtain ⟨s, hs, rfl, rfl, rfl, rfl, Hok, g1, g2, g3, g4⟩ := hrel
    have hbf := befores_le xs s 1
    by_cases hlt : s < n
    · obtain ⟨b, o, rfl, hcx⟩ := HR.out.2 (by omega)
      have z := hcx s hlt
      clear hcx
      have hlt' : s < xs.length := by rw [hlen.out]; exact hlt
      by_cases hx : 0 ≤ rd xs s ∧ rd xs s ≤ 15
      · obtain ⟨k, hk⟩ : ∃ k : Nat, rd xs s = k := ⟨(rd xs s).toNat, by omega⟩
        have hok2 : Hid (lensOk (xs.take (s + 1)) = true) := by
          show lensOk _ = true
          have h1 : lensOk (xs.take s) = true := Hok.out
          rw [List.take_succ_eq_append_getElem hlt']
          unfold lensOk at *
          rw [List.all_append, h1, ← rd_getElem hlt', hk]
          simp
          omega
        have hb := befores_next xs s k hlt' hk 1
        rw [hk] at z hx
        by_cases h0 : k = 0
        · subst h0
          have e1 := Lib.hid (sumR_zero xs s hlt' hk)
          have e2 := Lib.hid (manyR_zero xs s hlt' hk)
          have e3 : Hid (befores xs (s + 1) 1 = befores xs s 1) := by show befores xs (s + 1) 1 = _; rw [hb, if_neg (by omega), Int.add_zero]
          clear hb hk hx
          go_wp2
          go_round
          case rel => exact ⟨s + 1, by omega, by go_num, by rw [e1.out], by rw [e2.out], by rw [e3.out], hok2, by rw [e1.out]; exact g1, by rw [e1.out]; omega, by rw [e2.out]; exact g3, by rw [e2.out]; omega⟩
          case measure => simp [intOf]; omega
        · have hk0 : 0 < k := by omega
          have e1 := Lib.hid (sumR_next xs s k hlt' hk hk0 (by omega))
          have e2 := Lib.hid (manyR_next xs s k hlt' hk hk0 (by omega))
          have hp := pow_15_le k (by omega)
          have hsh := shr_len k (by omega)
          by_cases h1 : k = 1
          · subst h1
            have e3 : Hid (befores xs (s + 1) 1 = befores xs s 1 + 1) := hb
            clear hb hk hx
            rw [show ((2 : Int) ^ (15 - 1)) = 16384 from by decide +kernel] at e1
            go_wp2
            go_round
            case rel => exact ⟨s + 1, by omega, by go_num, by rw [e1.out], by rw [e2.out], by rw [e3.out], hok2, by rw [e1.out]; omega, by rw [e1.out]; omega, by rw [e2.out]; omega, by rw [e2.out]; omega⟩
            case measure => simp [intOf]; omega
          · have e3 : Hid (befores xs (s + 1) 1 = befores xs s 1) := by show befores xs (s + 1) 1 = _; rw [hb, if_neg (by omega), Int.add_zero]
            have h1' : ((k : Int) == 1) = false := by simp; omega
            clear hb hk
            go_wp2
            go_round
            case rel => exact ⟨s + 1, by omega, by go_num, by rw [e1.out], by rw [e2.out], by rw [e3.out], hok2, by rw [e1.out]; omega, by rw [e1.out]; omega, by rw [e2.out]; omega, by rw [e2.out]; omega⟩
            case measure => simp [intOf]; omega
      · have hno := lensOk_cell s hlt' hx
        have hr : rightB xs = false := by rw [← Heq.out]; unfold rightR; rw [hno, Bool.false_and]
        have Hr := Lib.hid hr
        have hways : rd xs s < 0 ∨ (0 ≤ rd xs s ∧ 15 < rd xs s) := by omega
        clear hx hno hr
        rcases hways with h1 | ⟨h1, h2⟩
        all_goals
          go_wp2
          go_ret
          exact ⟨by rw [Hr.out]; rfl, Below.refl _ _⟩
    · obtain rfl : s = n := by omega
      have hok : lensOk xs = true := by
        have h1 : lensOk (xs.take s) = true := Hok.out
        rwa [List.take_of_length_le (by rw [hlen.out]; exact Nat.le_refl _)] at h1
      have hfin : rightB xs = (sumR xs s == 32768 || (manyR xs s == 1 && befores xs s 1 == 1)) := by
        rw [← Heq.out]; unfold rightR; rw [hok, hlen.out, Bool.true_and]
      have Hfin := Lib.hid hfin
      clear hok hfin
      cases c1 : (sumR xs s == 32768)
      · cases c2 : (manyR xs s == 1)
        · go_wp2
          go_ret
          exact ⟨by rw [Hfin.out, c1, c2]; rfl, Below.refl _ _⟩
        · cases c3 : (befores xs s 1 == 1)
          all_goals
            go_wp2
            go_ret
            exact ⟨by rw [Hfin.out, c1, c2, c3]; rfl, Below.refl _ _⟩
      · go_wp2
        go_ret
        exact ⟨by rw [Hfin.out, c1]; rfl, Below.refl _ _⟩
end Go.Proofs.YtkjoncllnlmdgaaDoor
/-
  A region that draws its order, whose last operation waits for all others: what is held till then need not be held behind it.
-/
namespace Go.Proofs.YtkjoncllnlmdgaaDoor
open Go.RowKit

/-- The post of all but the last operation: what the last one asks; no panic. -/
def LastQ (P : Program) (ops : Array Oper) (on : Oper) (Q : Exit → Act → World → Prop) : Exit → Act → World → Prop
  | .normal, a, w => wpList P ops Q [on] a w
  | .panic _, _, _ => False
  | e, a, w => Q e a w
theorem LastQ.imp {P : Program} {ops : Array Oper} {on : Oper} {Q : Exit → Act → World → Prop} : ∀ (e : Exit) (a : Act) (w : World), e ≠ .normal → LastQ P ops on Q e a w → Q e a w := fun e a w hn h => by
  cases e <;> first | exact absurd rfl hn | exact h | exact (h : False).elim
theorem upon_monoQ {P : Program} {o : Oper} {a : Act} {next : Act → World → Prop} {Q Q' : Exit → Act → World → Prop} (hQ : ∀ e a w, e ≠ .normal → Q' e a w → Q e a w) : ∀ r, o.upon P a next Q' r → o.upon P a next Q r := by
  intro r h
  rcases r with ⟨n, w'⟩ | ⟨hh, w'⟩
  · cases n with
    | enter f args =>
      refine Calls.mono h fun e w'' he => ?_
      cases e with
      | returned u => exact he
      | panicked c => exact hQ _ _ _ (by simp) he
      | outgrown => obtain ⟨a, w, hq⟩ := he; exact ⟨a, w, hQ _ _ _ (by simp) hq⟩
    | _ => exact h
  · cases hh with
    | panic v => exact hQ _ _ _ (by simp) h
    | _ => exact h
theorem wpOp_monoQ {P : Program} {ops : Array Oper} {i : Nat} {K : Act → World → Prop} {a : Act} {w : World} {Q Q' : Exit → Act → World → Prop} (hQ : ∀ e a w, e ≠ .normal → Q' e a w → Q e a w) (h : wpOp P ops Q' i K a w) : wpOp P ops Q i K a w := by
  unfold wpOp at *
  split
  · simpa [*] using h
  · rename_i o ho
    simp only [ho] at h
    split
    · rename_i hw
      simp only [hw, if_true] at h
      rcases h with h | ⟨h1, a', w', h2⟩
      · exact .inl (upon_monoQ hQ _ h)
      · exact .inr ⟨h1, a', w', hQ _ _ _ (by simp) h2⟩
    · rename_i hw
      simp only [hw] at h
      exact h
/-- Every operation waits for earlier ones alone; the last for all others. -/
def lastB (md : Region.Mode) (ops : Array Oper) (n : Nat) : Bool :=
  decide (ops.size = n + 1) && (List.range ops.size).all (fun i => ((ops[i]?).map fun o => o.after.all fun e => !Region.binds md e || decide (e.on < i)).getD false) &&
    (List.range n).all (fun i => (List.range (n + 1)).any fun j => decide (i < j) && ((ops[j]?).map fun o => o.after.any fun e => Region.binds md e && e.on == i).getD false)
structure LastOk (md : Region.Mode) (ops : Array Oper) (n : Nat) (on : Oper) : Prop where
  hn : ops[n]? = some on
  size : ops.size = n + 1
  down : ∀ i o, ops[i]? = some o → ∀ e ∈ o.after, Region.binds md e = true → e.on < i
  all : ∀ i, i < n → ∃ j o, i < j ∧ j ≤ n ∧ ops[j]? = some o ∧ ∃ e ∈ o.after, Region.binds md e = true ∧ e.on = i
/-- Who has come up has come up behind those for whom it waits. -/
def Closed (md : Region.Mode) (ops : Array Oper) (listed : Array Bool) : Prop := ∀ j o, ops[j]? = some o → listed.getD j false = true → ∀ e ∈ o.after, Region.binds md e = true → listed.getD e.on false = true
theorem Closed.set {md : Region.Mode} {ops : Array Oper} {listed : Array Bool} (hc : Closed md ops listed) {i : Nat} (hi : i ∈ Region.ready md ops listed) : Closed md ops (listed.setIfInBounds i true) := by
  obtain ⟨_, oi, hoi, hall⟩ := mem_ready.1 hi
  intro j o hj hl e he hb
  by_cases hij : i = j
  · subst hij
    have : o = oi := Option.some.inj (hj.symm.trans hoi)
    subst this
    exact getD_set_true (hall e he hb)
  · rw [getD_set_ne false hij] at hl
    exact getD_set_true (hc j o hj hl e he hb)
theorem LastOk.of {md : Region.Mode} {ops : Array Oper} {n : Nat} {on : Oper} (hn : ops[n]? = some on) (h : lastB md ops n = true) : LastOk md ops n on := by
  unfold lastB at h
  simp only [Bool.and_eq_true, decide_eq_true_eq] at h
  obtain ⟨⟨h1, h2⟩, h3⟩ := h
  refine ⟨hn, h1, fun i o ho e he hb => ?_, fun i hi => ?_⟩
  · have hlt : i < ops.size := (Array.getElem?_eq_some_iff.1 ho).1
    have q := List.all_eq_true.1 h2 i (List.mem_range.2 hlt)
    rw [ho, Option.map_some, Option.getD_some] at q
    have q2 := Array.all_eq_true_iff_forall_mem.1 q e he
    rw [hb] at q2
    simpa using q2
  · have q := List.all_eq_true.1 h3 i (List.mem_range.2 hi)
    obtain ⟨j, hj, q1⟩ := List.any_eq_true.1 q
    simp only [Bool.and_eq_true, decide_eq_true_eq] at q1
    have hjn := List.mem_range.1 hj
    have ho : ops[j]? = some (ops[j]'(by omega)) := Array.getElem?_eq_getElem (by omega)
    have q3 := q1.2
    rw [ho, Option.map_some, Option.getD_some] at q3
    obtain ⟨e, he, q2⟩ := Array.any_eq_true'.1 q3
    simp only [Bool.and_eq_true, beq_iff_eq] at q2
    exact ⟨j, _, q1.1, by omega, ho, e, he, q2.1, q2.2⟩
/-- Where nothing but the last may come up, all others have. -/
theorem LastOk.listed {md : Region.Mode} {ops : Array Oper} {n : Nat} {on : Oper} (L : LastOk md ops n on) {listed : Array Bool} (hs : listed.size = ops.size) (hr : ∀ i ∈ Region.ready md ops listed, i = n) : ∀ i, i < n → listed.getD i false = true := by
  intro i
  induction i using Nat.strongRecOn with
  | _ i ih =>
    intro hi
    cases e : listed.getD i false with
    | true => rfl
    | false =>
      exfalso
      have hsz := L.size
      have ho : ops[i]? = some (ops[i]'(by omega)) := Array.getElem?_eq_getElem (by omega)
      have : i ∈ Region.ready md ops listed := by
        rw [mem_ready]
        refine ⟨?_, _, ho, fun e' he hb => ih e'.on (L.down i _ ho e' he hb) (by have := L.down i _ ho e' he hb; omega)⟩
        have hil : i < listed.size := by omega
        simp [hil] at e ⊢
        exact e
      have := hr i this
      omega
theorem LastOk.end' {md : Region.Mode} {ops : Array Oper} {n : Nat} {on : Oper} (L : LastOk md ops n on) {listed : Array Bool} (hs : listed.size = ops.size) (hn : listed.getD n true = false) (h : ∀ i, i < n → listed.getD i false = true) : Region.ready md ops listed = [n] ∧ Region.ready md ops (listed.setIfInBounds n true) = [] := by
  have hmem : ∀ j, j ∈ Region.ready md ops listed ↔ j = n := by
    intro j
    rw [mem_ready]
    constructor
    · rintro ⟨h1, o, ho, _⟩
      have hlt : j < ops.size := (Array.getElem?_eq_some_iff.1 ho).1
      rcases Nat.lt_or_ge j n with h2 | h2
      · have h3 := h j h2
        have hj : j < listed.size := by omega
        simp [hj] at h1 h3
        rw [h1] at h3
        cases h3
      · have := L.size; omega
    · rintro rfl
      exact ⟨hn, on, L.hn, fun e he hb => h _ (L.down _ _ L.hn e he hb)⟩
  constructor
  · have hnd : (Region.ready md ops listed).Nodup := (List.nodup_range).sublist (by unfold Region.ready; exact List.filter_sublist)
    generalize Region.ready md ops listed = l at *
    match l, hmem, hnd with
    | [], hm, _ => exact absurd ((hm n).2 rfl) (by simp)
    | [x], hm, _ => rw [(hm x).1 (by simp)]
    | x :: y :: r, hm, hnd =>
      have e1 := (hm x).1 (by simp)
      have e2 := (hm y).1 (by simp)
      simp [e1, e2] at hnd
  · rw [List.eq_nil_iff_forall_not_mem]
    intro j hj
    have h1 := hj
    rw [mem_ready] at h1
    obtain ⟨h1, o, ho, _⟩ := h1
    have hlt : j < ops.size := (Array.getElem?_eq_some_iff.1 ho).1
    have hjs : j < (listed.setIfInBounds n true).size := by simp; omega
    by_cases e : n = j
    · subst e
      simp at h1
    · rw [getD_set_ne true e] at h1
      have h3 := h j (by have := L.size; omega)
      have hj2 : j < listed.size := by omega
      simp [hj2] at h1 h3
      rw [h1] at h3
      cases h3
theorem wpAny_of_last {P : Program} {md : Region.Mode} {ops : Array Oper} {n : Nat} {on : Oper} {Q : Exit → Act → World → Prop} {S : World → Prop} (L : LastOk md ops n on) :
    ∀ (fuel : Nat) (listed : Array Bool) (a : Act) (w : World), listed.size = ops.size → listed.getD n true = false → Closed md ops listed → wpAnyH P md ops (LastQ P ops on Q) S fuel (listed.setIfInBounds n true) a w → wpAny P md ops Q (fuel + 1) listed a w := by
  have fin : ∀ (fuel : Nat) (listed : Array Bool) (a : Act) (w : World), listed.size = ops.size → listed.getD n true = false → (∀ i, i < n → listed.getD i false = true) → LastQ P ops on Q .normal a w → wpAny P md ops Q (fuel + 1) listed a w := by
    intro fuel listed a w hs hn hl h
    obtain ⟨r1, r2⟩ := L.end' hs hn hl
    refine ⟨fun h0 => (by rw [r1] at h0; cases h0), fun i hi => ?_⟩
    rw [r1] at hi
    have hin : i = n := by simpa using hi
    subst hin
    have hw : wpOp P ops Q i (wpList P ops Q []) a w := by unfold wpOp; simp only [L.hn]; exact h
    refine wpOp_mono (fun a' w' h' => ?_) hw
    cases fuel with
    | zero => exact ⟨r2, h'⟩
    | succ f => exact ⟨fun _ => h', fun j hj => by rw [r2] at hj; cases hj⟩
  have emp : ∀ (listed : Array Bool), listed.size = ops.size → Region.ready md ops (listed.setIfInBounds n true) = [] → ∀ i, i < n → listed.getD i false = true := by
    intro listed hs hr
    exact L.listed hs (fun i hi => by
      apply Classical.byContradiction
      intro hne
      have := ready_mono hi hne
      rw [hr] at this
      cases this)
  intro fuel
  induction fuel with
  | zero =>
    intro listed a w hs hn _ h
    exact fin 0 listed a w hs hn (emp listed hs h.1) h.2
  | succ fuel ih =>
    intro listed a w hs hn hc h
    by_cases hr : Region.ready md ops (listed.setIfInBounds n true) = []
    · exact fin (fuel + 1) listed a w hs hn (emp listed hs hr) (h.1 hr)
    · refine ⟨fun h0 => ?_, fun i hi => ?_⟩
      · exfalso
        have hl := L.listed hs (fun i hi => by rw [h0] at hi; cases hi)
        rw [(L.end' hs hn hl).1] at h0
        cases h0
      · by_cases hin : i = n
        · subst hin
          exfalso
          have hl : ∀ d j, i - j = d → j < i → listed.getD j false = true := by
            intro d
            induction d using Nat.strongRecOn with
            | _ d ihd =>
              intro j hd hj
              obtain ⟨j', o, h1, h2, ho, e, he, hb, rfl⟩ := L.all j hj
              rcases Nat.lt_or_ge j' i with h3 | h3
              · exact hc j' o ho (ihd (i - j') (by omega) j' rfl h3) e he hb
              · obtain rfl : j' = i := by omega
                obtain ⟨_, o', ho', hall⟩ := mem_ready.1 hi
                have : o' = o := Option.some.inj (ho'.symm.trans ho)
                subst this
                exact hall e he hb
          exact hr (L.end' hs hn (fun j hj => hl _ j rfl hj)).2
        · have h1 := wpOp_monoQ LastQ.imp (h.2 i (ready_mono hi hin))
          refine wpOp_mono (fun a' w' h' => ih (listed.setIfInBounds i true) a' w' (by simpa using hs) (by rw [getD_set_ne true hin]; exact hn) (hc.set hi) ?_) h1
          rw [Array.setIfInBounds_comm _ _ hin]
          exact h'.2
/-- The beginning: what is held is held till the last operation. -/
theorem wp_region_last {P : Program} {ops : Array Oper} {Q : Exit → Act → World → Prop} {S : World → Prop} {id n : Nat} {on : Oper} {a : Act} {w : World} (hm : P.follows .mixedOrders = true) (hn : ops[n]? = some on) (hB : lastB .any ops n = true) (hS : S w.drew)
    (h : S w.drew → wpAnyH P .any ops (LastQ P ops on Q) S n ((Array.replicate ops.size false).setIfInBounds n true) a w.drew) : (Code.region id ops true).wp P Q a w := by
  have L := LastOk.of hn hB
  refine wp_region_any hm ?_
  have h1 := wpAny_of_last L n (Array.replicate ops.size false) a w.drew (by simp) (by have := L.size; simp [show n < ops.size by omega]) (fun j o _ hl => (by
    rcases Nat.lt_or_ge j ops.size with h' | h'
    · simp [h'] at hl
    · simp [h'] at hl)) (h hS)
  rw [L.size] at h1 ⊢
  exact h1
end Go.Proofs.YtkjoncllnlmdgaaDoor
