/-
  The walks of the document's Right and Codes (inkwellref05).
-/
import Derived.Test.YtempgkglhgelkaaHuffD
namespace Go.Proofs.Ytempgkglhgelkaa
open Go.RowKit

/-- Code and last length, ahead of symbol s in the round of length k. -/
def CodeInv (xs : List Int) (k s : Nat) (code : Int) (last : Nat) : Prop :=
  (last = 0 ∧ code = 0 ∧ nextCode xs k s = 0) ∨ (0 < last ∧ last ≤ k ∧ 0 ≤ code ∧ (code + 1) * 2 ^ (k - last) = nextCode xs k s)
theorem CodeInv.miss {xs : List Int} {k s last : Nat} {code : Int} (h : CodeInv xs k s code last) (hs : s < xs.length) (hx : rd xs s ≠ k) : CodeInv xs k (s + 1) code last := by
  have e : nextCode xs k (s + 1) = nextCode xs k s := by unfold nextCode; rw [before_miss xs k s hs hx]
  unfold CodeInv at *
  rw [e]
  exact h
theorem CodeInv.hit {xs : List Int} {k s : Nat} (hs : s < xs.length) (hx : rd xs s = k) (hk : 0 < k) (h0 : 0 ≤ nextCode xs k s) : CodeInv xs k (s + 1) (nextCode xs k s) k := by
  have e : nextCode xs k (s + 1) = nextCode xs k s + 1 := by unfold nextCode; rw [before_hit xs k s hs hx]; omega
  refine .inr ⟨hk, Nat.le_refl _, h0, ?_⟩
  rw [e, Nat.sub_self]
  omega
theorem CodeInv.over {xs : List Int} {k last : Nat} {code : Int} (h : CodeInv xs k xs.length code last) (hk : 0 < k) (hk2 : k < 16) : CodeInv xs (k + 1) 0 code last := by
  have e := nextCode_over xs k hk hk2
  rcases h with ⟨h1, h2, h3⟩ | ⟨h1, h2, h3, h4⟩
  · exact .inl ⟨h1, h2, by rw [e, h3]; rfl⟩
  · refine .inr ⟨h1, by omega, h3, ?_⟩
    rw [e, ← h4, show k + 1 - last = (k - last) + 1 from by omega, Int.pow_succ, ← Int.mul_assoc, Int.mul_comm]

theorem elU64r : ElT Try.prog 46 30 (.int .u64 0) 1 8 := elU64
set_option maxHeartbeats 2000000 in
set_option maxRecDepth 200000 in
theorem refCodes_calls (A : Option Addr) (n cap : Nat) (xs : List Int) (w : World) (hR : Rd w .i64 A n xs) (hn : n ≤ 1000000) :
    Calls Try.prog 25 #[.slice A n cap] w fun e w' => ∃ v, e = .returned v ∧ w'.ownsRow w.heap.size 30 1 v n (ints .u64 (codesOf xs)) ∧ Below w.heap.size w w' := by
  have HR := Lib.hid hR
  have hlen := Lib.hid hR.1
  clear hR
  go_enter Try.func25, Try.ntmps25
  go_wp2_with (at_make; refine wpList_mk1 (base := w.heap.size) (n := n) _ rfl _ _ rfl elU64 rfl rfl rfl rfl (by omega) (Nat.le_refl _) ?_; intro w4 hown4 hb4 hsz4)
  have Hown4 := Lib.hid hown4
  have Hb4 := Lib.hid hb4
  clear hown4 hb4
  go_loopw [4, 5, 6] (fun x y i wr => ∃ (k last : Nat) (code : Int) (l : List Int), 1 ≤ k ∧ k ≤ 16 ∧ i = .int .i64 k ∧ x = .int .u64 code ∧ y = .int .i64 last ∧ Hid (CodeInv xs k 0 code last) ∧ wr.ownsRow w.heap.size 30 1 (.slice (some ⟨w.heap.size, 0, none⟩) n n) n (ints .u64 l) ∧ Hid (∀ j, j < n → rd l j = if 0 < rd xs j ∧ rd xs j < k then codeAt xs j else 0) ∧ Below w.heap.size w wr) (fun _ _ i _ => 16 - (intOf i).toNat)
  case atStart =>
    refine ⟨1, 0, 0, _, by omega, by omega, rfl, rfl, rfl, .inl ⟨rfl, rfl, nextCode_one xs⟩, Hown4.out, ?_, Hb4.out⟩
    intro j hj
    rw [if_neg (by omega), rd_getElem (by rw [List.length_replicate]; exact hj), List.getElem_replicate]
  case round =>
    obtain ⟨k, last, code, l, hk1, hk2, rfl, rfl, rfl, Hinv, hown, Hl, hbel⟩ := hrel
    have Hown := Lib.hid hown
    have Hbel := Lib.hid hbel
    clear hown hbel
    by_cases hlt : k ≤ 15
    · obtain ⟨wo, hwo⟩ : ∃ wo : World, wo = wr := ⟨_, rfl⟩
      subst hwo
      go_wp2
      go_loopw [4, 5, 7] (fun x y i wr => ∃ (s last : Nat) (code : Int) (l : List Int), s ≤ n ∧ i = .int .i64 s ∧ x = .int .u64 code ∧ y = .int .i64 last ∧ Hid (CodeInv xs k s code last) ∧ wr.ownsRow w.heap.size 30 1 (.slice (some ⟨w.heap.size, 0, none⟩) n n) n (ints .u64 l) ∧ Hid (∀ j, j < n → rd l j = if 0 < rd xs j ∧ (rd xs j < k ∨ (rd xs j = k ∧ j < s)) then codeAt xs j else 0) ∧ Below w.heap.size w wr) (fun _ _ i _ => n - (intOf i).toNat)
      case atStart =>
        refine ⟨0, last, code, l, by omega, rfl, rfl, rfl, Hinv, Hown.out, ?_, Hbel.out⟩
        intro j hj
        rw [Hl.out j hj]
        by_cases g : 0 < rd xs j ∧ rd xs j < k
        · rw [if_pos g, if_pos ⟨g.1, .inl g.2⟩]
        · rw [if_neg g, if_neg (by omega)]
      case round =>
        obtain ⟨s, last, code, l, hs, rfl, rfl, rfl, Hinv, hown, Hl, hbel⟩ := hrel
        have hll : l.length = n := by have := hown.1; simpa [ints] using this
        have Hown := Lib.hid hown
        have Hbel := Lib.hid hbel
        clear hown hbel
        by_cases hlt2 : s < n
        · obtain ⟨b, o, rfl, hcx⟩ := HR.out.2 (by omega)
          have z := kept_cell Hbel.out (hcx s hlt2)
          clear hcx
          cases hx : (rd xs s != (k : Int))
          · have hxk : rd xs s = k := by simpa using hx
            have HX := Lib.hid hxk
            have hv := nextCode_range xs k s (by omega)
            rw [hlen.out] at hv
            have xc := Hown.out.cellAt s (by omega)
            rw [ints_get (by omega)] at xc
            have xf := Hown.out.frozenAt s
            have hnew := Lib.hid (CodeInv.hit (by rw [hlen.out]; exact hlt2) hxk (by omega) hv.1)
            have e1 : codeAt xs s = nextCode xs k s := by
              unfold codeAt
              rw [if_pos (by omega), hxk]
              rfl
            have E1 := Lib.hid e1
            have Hl3 : Hid (∀ j, j < n → rd (l.set s (nextCode xs k s)) j = if 0 < rd xs j ∧ (rd xs j < k ∨ (rd xs j = k ∧ j < s + 1)) then codeAt xs j else 0) := fun j hj => by
              rw [rd_set (by omega)]
              by_cases g2 : s = j
              · subst g2; rw [if_pos rfl, if_pos (by omega), E1.out]
              · rw [if_neg g2, Hl.out j hj]
                by_cases g : 0 < rd xs j ∧ (rd xs j < k ∨ (rd xs j = k ∧ j < s))
                · rw [if_pos g, if_pos (by omega)]
                · rw [if_neg g, if_neg (by omega)]
            rcases Hinv.out with ⟨i1, i2, i3⟩ | ⟨i1, i2, i3, i4⟩
            · subst i1 i2
              rw [i3] at hnew Hl3
              clear hxk e1 hv i3
              go_wp2
              go_roundw
              case rel =>
                exact ⟨s + 1, k, 0, l.set s 0, by omega, by go_num, rfl, rfl, hnew, by rw [ints_set]; exact (Hown.out.stored s _).1, Hl3, Hbel.out.setCell (Nat.le_refl _) _⟩
              case measure => simp [intOf]; omega
            · have hle : code + 1 ≤ (code + 1) * 2 ^ (k - last) := by
                have h1 : (1 : Int) ≤ 2 ^ (k - last) := by
                  have : (1 : Nat) ≤ 2 ^ (k - last) := Nat.one_le_two_pow
                  exact_mod_cast this
                have h2 := Int.mul_le_mul_of_nonneg_left h1 (show 0 ≤ code + 1 by omega)
                rw [Int.mul_one] at h2
                exact h2
              have ev : IntKind.u64.wrap (IntKind.u64.wrap (code + 1) * 2 ^ (k - last)) = nextCode xs k s := by
                rw [IntWalk.u64_in (code + 1) (by rw [i4] at hle; omega), i4]
                exact IntWalk.u64_in _ (by omega)
              have Ev := Lib.hid ev
              clear hxk e1 i4 hle ev
              go_wp2
              rw [Ev.out]
              go_roundw
              case rel =>
                exact ⟨s + 1, k, nextCode xs k s, l.set s (nextCode xs k s), by omega, by go_num, rfl, rfl, hnew, by rw [ints_set]; exact (Hown.out.stored s _).1, Hl3, Hbel.out.setCell (Nat.le_refl _) _⟩
              case measure => simp [intOf]; omega
          · have hxk : rd xs s ≠ k := by simpa using hx
            have hnew := Lib.hid (CodeInv.miss Hinv.out (by rw [hlen.out]; exact hlt2) hxk)
            have Hx := Lib.hid hxk
            clear hxk
            go_wp2
            go_roundw
            case rel =>
              refine ⟨s + 1, last, code, l, by omega, by go_num, rfl, rfl, hnew, Hown.out, ?_, Hbel.out⟩
              intro j hj
              rw [Hl.out j hj]
              by_cases g2 : s = j
              · subst g2
                have := Hx.out
                by_cases g : 0 < rd xs s ∧ (rd xs s < k ∨ (rd xs s = k ∧ s < s))
                · rw [if_pos g, if_pos (by omega)]
                · rw [if_neg g, if_neg (by omega)]
              · by_cases g : 0 < rd xs j ∧ (rd xs j < k ∨ (rd xs j = k ∧ j < s))
                · rw [if_pos g, if_pos (by omega)]
                · rw [if_neg g, if_neg (by omega)]
            case measure => simp [intOf]; omega
        · have hsn : s = n := by omega
          have hinv := Hinv.out
          rw [hsn, ← hlen.out] at hinv
          have hover := Lib.hid (CodeInv.over hinv (by omega) (by omega))
          clear hinv
          go_wp2
          go_roundw
          case rel =>
            refine ⟨k + 1, last, code, l, by omega, by omega, by go_num, rfl, rfl, hover, Hown.out, ?_, Hbel.out⟩
            intro j hj
            rw [Hl.out j hj]
            by_cases g : 0 < rd xs j ∧ (rd xs j < k ∨ (rd xs j = k ∧ j < s))
            · rw [if_pos g, if_pos (by omega)]
            · rw [if_neg g, if_neg (by omega)]
          case measure => simp [intOf]; omega
    · have hk16 : k = 16 := by omega
      have hll : l.length = n := by have := Hown.out.1; simpa [ints] using this
      have e : l = codesOf xs := ext_rd (by rw [hll, codesOf_length, hlen.out]) (fun j hj => by
        rw [Hl.out j (by omega), rd_codesOf _ _ (by rw [hlen.out]; omega)]
        by_cases g : 0 < rd xs j ∧ rd xs j < k
        · rw [if_pos g]
        · rw [if_neg g]
          unfold codeAt
          rw [if_neg (by omega)])
      subst e
      clear hk16
      go_wp2
      go_ret
      exact ⟨_, rfl, Hown.out, Hbel.out⟩
end Go.Proofs.Ytempgkglhgelkaa
