/-
  The walks of the reference's bits (inkwellref01): Low, Of.
-/
import Derived.Test.YtempgkglhgelkaaBitsN
import Derived.Test.YtempgkglhgelkaaRdA
import Derived.Test.YtempgkglhgelkaaHuffW
namespace Go.Proofs.Ytempgkglhgelkaa
open Go.RowKit

theorem elB : ElT Try.prog 22 5 (.int .u8 0) 1 1 := ⟨Try.underlying22, by kernel_rfl, rfl, by decide, by decide⟩
/-- The lowest bits of a number. -/
def lowOf (x n : Nat) : List Int := (List.range n).map fun i => ((x / 2 ^ i % 2 : Nat) : Int)
theorem lowOf_length (x n : Nat) : (lowOf x n).length = n := by simp [lowOf]
theorem lowOf_succ (x n : Nat) : lowOf x (n + 1) = lowOf x n ++ [((x / 2 ^ n % 2 : Nat) : Int)] := by simp [lowOf, List.range_succ]
set_option maxHeartbeats 1000000 in
set_option maxRecDepth 100000 in
theorem Low_calls (x n : Nat) (w : World) (hx : x < 18446744073709551616) (hn : n ≤ 64) :
    Calls Try.prog 36 #[.int .u64 x, .int .i64 n] w fun e w' => ∃ v, e = .returned v ∧ w'.ownsRow w.heap.size 5 1 v n (ints .u8 (lowOf x n)) ∧ Below w.heap.size w w' := by
  go_enter Try.func36, Try.ntmps36
  go_wp2
  go_loopw [0, 5, 6] (fun y v i wr => ∃ k : Nat, k ≤ n ∧ i = .int .i64 k ∧ y = .int .u64 (x / 2 ^ k : Nat) ∧ Hid (wr.ownsRow w.heap.size 5 1 v k (ints .u8 (lowOf x k))) ∧ Hid (Below w.heap.size w wr)) (fun _ _ i _ => n - (intOf i).toNat)
  case atStart => exact ⟨0, by omega, rfl, by simp, World.ownsRow_nil _ _ _ _, Below.refl _ _⟩
  case round =>
    obtain ⟨k, hk, rfl, rfl, Hown, Hbel⟩ := hrel
    have hsz := Hbel.out.size
    by_cases hlt : k < n
    · obtain ⟨y, hy⟩ : ∃ y : Nat, y = x / 2 ^ k := ⟨_, rfl⟩
      have hyx : y ≤ x := by rw [hy]; exact Nat.div_le_self _ _
      have hnx : x / 2 ^ (k + 1) = y / 2 := by rw [hy, Nat.div_div_eq_div_mul, Nat.pow_succ]
      have hlw := lowOf_succ x k
      rw [← hy] at hlw ⊢
      have Hnx := Lib.hid hnx
      have Hlw := Lib.hid hlw
      clear hnx hlw hy
      obtain ⟨A, c, rfl⟩ := own_slice Hown.out
      obtain ⟨z, hz, hz1, Hz⟩ : ∃ z : Nat, (y : Int) % 2 = (z : Int) ∧ z ≤ 1 ∧ Hid (y % 2 = z) := ⟨y % 2, by omega, by omega, rfl⟩
      rw [Hz.out] at Hlw
      go_wp2_with (at_builtin; refine wpList_app1 rfl _ _ rfl elB Hown.out rfl rfl rfl rfl (by omega) hsz ?_; intro v' w' hown' hbel' _)
      go_roundw
      case rel => exact ⟨k + 1, by omega, by go_num, by rw [Hnx.out]; go_num, by rw [Hlw.out, ints_append]; exact hown', Hbel.out.trans hbel'⟩
      case measure => simp [intOf]; omega
    · obtain rfl : k = n := by omega
      go_wp2
      go_ret
      exact ⟨_, rfl, Hown.out, Hbel.out⟩
/-- The bits of bytes, so many of them. -/
def bitsOf (bs : List Int) (p m : Nat) : List Int := (List.range m).map fun i => ((bitAt bs (p + i) : Nat) : Int)
theorem bitsOf_length (bs : List Int) (p m : Nat) : (bitsOf bs p m).length = m := by simp [bitsOf]
theorem rd_bitsOf {bs : List Int} {p m i : Nat} (h : i < m) : rd (bitsOf bs p m) i = ((bitAt bs (p + i) : Nat) : Int) := by
  rw [rd_getElem (by rw [bitsOf_length]; exact h)]
  simp [bitsOf]
theorem bitsOf_next (bs : List Int) (k : Nat) : bitsOf bs 0 (8 * (k + 1)) = bitsOf bs 0 (8 * k) ++ lowOf (rd bs k).toNat 8 := by
  apply ext_rd (by rw [List.length_append, bitsOf_length, bitsOf_length, lowOf_length]; omega)
  intro j hj
  rw [bitsOf_length] at hj
  rw [rd_bitsOf hj]
  rcases Nat.lt_or_ge j (8 * k) with g | g
  · rw [rd_appL (by rw [bitsOf_length]; exact g), rd_bitsOf g]
  · obtain ⟨i, rfl⟩ : ∃ i, j = 8 * k + i := ⟨j - 8 * k, by omega⟩
    have e : 8 * k + i = (bitsOf bs 0 (8 * k)).length + i := by rw [bitsOf_length]
    rw [e, rd_appR, ← e, rd_getElem (by rw [lowOf_length]; omega)]
    simp only [lowOf, List.getElem_map, List.getElem_range]
    unfold bitAt
    rw [show (0 + (8 * k + i)) / 8 = k from by omega, show (0 + (8 * k + i)) % 8 = i from by omega]
set_option maxHeartbeats 1000000 in
set_option maxRecDepth 100000 in
theorem Of_calls (A : Option Addr) (len cap : Nat) (bs : List Int) (w : World) (hB : Rd w .u8 A len bs) (hb : ∀ j, j < len → 0 ≤ rd bs j ∧ rd bs j ≤ 255) (hlen : len ≤ 1000000) :
    Calls Try.prog 27 #[.slice A len cap] w fun e w' => ∃ v, e = .returned v ∧ w'.ownsRow w.heap.size 5 1 v (8 * len) (ints .u8 (bitsOf bs 0 (8 * len))) ∧ Below w.heap.size w w' := by
  have HB := Lib.hid hB
  have Hb := Lib.hid hb
  clear hB hb
  go_enter Try.func27, Try.ntmps27
  go_wp2
  go_loopw [3, 4] (fun v i wr => ∃ k : Nat, k ≤ len ∧ i = .int .i64 k ∧ Hid (wr.ownsRow w.heap.size 5 1 v (8 * k) (ints .u8 (bitsOf bs 0 (8 * k)))) ∧ Hid (Below w.heap.size w wr)) (fun _ i _ => len - (intOf i).toNat)
  case atStart => exact ⟨0, by omega, rfl, World.ownsRow_nil _ _ _ _, Below.refl _ _⟩
  case round =>
    obtain ⟨k, hk, rfl, Hown, Hbel⟩ := hrel
    have hsz := Hbel.out.size
    by_cases hlt : k < len
    · obtain ⟨b, o, rfl, hcx⟩ := HB.out.2 (by omega)
      have z := kept_cell Hbel.out (hcx k hlt)
      have hr := Hb.out k hlt
      clear hcx
      obtain ⟨y, hy⟩ : ∃ y : Nat, rd bs k = y := ⟨(rd bs k).toNat, by omega⟩
      have hnx := bitsOf_next bs k
      rw [hy, Int.toNat_natCast] at hnx
      rw [hy] at z hr
      have Hnx := Lib.hid hnx
      clear hnx hy
      obtain ⟨A1, c1, rfl⟩ := own_slice Hown.out
      go_wp2_with fail
      refine (Low_calls y 8 _ (by omega) (by omega)).mono ?_
      rintro e w2 ⟨v2, rfl, ho2, hb2⟩
      obtain ⟨A2, c2, rfl, _, hr2⟩ := own_rd ho2
      have ho3 := own_below Hown.out hb2
      have hnil := own_none ho2
      have hsz2 := hb2.size
      have Hr2 := Lib.hid hr2
      have Hb2 := Lib.hid hb2
      have Ho3 := Lib.hid ho3
      have Hnil := Lib.hid hnil
      clear ho2 hr2 hb2 ho3 hnil
      go_wp2_with (at_builtin; refine wpList_appRd rfl _ _ rfl elB Ho3.out rfl rfl Hr2.out Hnil.out (by omega) (by omega) ?_; intro v' w' hown' hg')
      go_roundw
      case rel =>
        exact ⟨k + 1, by omega, by go_num, by rw [Hnx.out]; exact hown', below_app (below_seq Hbel.out (Nat.le_refl _) Hb2.out) (Nat.le_refl _) Ho3.out (Nat.le_refl _) hg'⟩
      case measure => simp [intOf]; omega
    · obtain rfl : k = len := by omega
      go_wp2
      go_ret
      exact ⟨_, rfl, Hown.out, Hbel.out⟩
end Go.Proofs.Ytempgkglhgelkaa
