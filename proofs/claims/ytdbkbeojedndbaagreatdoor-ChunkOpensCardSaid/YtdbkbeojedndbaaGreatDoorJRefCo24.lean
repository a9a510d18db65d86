/-
  Texts joined into one file: RefB, PutLen, DefX.
-/
import Derived.Test.YtdbkbeojedndbaaGreatDoorJRefCo7
import Derived.Test.YtdbkbeojedndbaaGreatDoorJRefCo14
import Derived.Test.YtdbkbeojedndbaaGreatDoorJRefCo12
import Derived.Test.YtdbkbeojedndbaaGreatDoorJRefCo13
import Derived.Test.YtdbkbeojedndbaaGreatDoorJRefCo3
import Derived.Test.YtdbkbeojedndbaaGreatDoorJRefCo23
import Derived.Test.YtdbkbeojedndbaaGreatDoorJRefCo9
import Derived.Test.YtdbkbeojedndbaaGreatDoorJRefCo18
import Derived.Test.YtdbkbeojedndbaaGreatDoorJRefCo5
namespace Go.Proofs.YtdbkbeojedndbaaGreatDoor
open Go.RowKit

theorem rd_revBit {x n k : Nat} (h : k < n) : rd (lowOf x n) k = ((x / 2 ^ k % 2 : Nat) : Int) := rd_lowOf h
set_option maxHeartbeats 1000000 in set_option maxRecDepth 100000 in
theorem High_calls (x n : Nat) (w : World) (hx : x < 18446744073709551616) (hn : n ≤ 64) :
  Calls Tryz.prog 90 #[.int .u64 x, .int .i64 n] w fun e w' => ∃ v, e = .returned v ∧ w'.ownsRow w.heap.size 5 1 v n (ints .u8 (hiOf x n)) ∧ Below w.heap.size w w' := by
 go_enter Tryz.func90, Tryz.ntmps90
 go_wp2_with fail
 refine (Low_calls x n _ hx hn).mono ?_
 rintro e w1 ⟨v1, rfl, ho1, hb1⟩
 obtain ⟨A1, c1, rfl, _, hr1⟩ := own_rd ho1
 have Hr1 := Lib.hid hr1
 have Hb1 := Lib.hid hb1
 clear ho1 hr1 hb1
 go_wp2
 go_loopw [6, 7] (fun v i wr => ∃ (k : Nat) (cur : List Int), k ≤ n ∧ i = .int .i64 ((k : Int) - 1) ∧ cur.length = n - k ∧ Hid (cur ++ hiOf x k = hiOf x n) ∧ Hid (wr.ownsRow w1.heap.size 5 1 v (n - k) (ints .u8 cur)) ∧ Hid (Below w1.heap.size w1 wr)) (fun _ i _ => (intOf i + 1).toNat)
 case atStart => exact ⟨n, [], by omega, by go_num, by simp, rfl, by rw [Nat.sub_self]; exact World.ownsRow_nil _ _ _ _, Below.refl _ _⟩
 case round =>
  obtain ⟨k, cur, hk, rfl, hcl, HC, Ho, Hb⟩ := hrel
  by_cases hlt : 0 < k
  ·obtain ⟨j, rfl⟩ : ∃ j, k = j + 1 := ⟨k - 1, by omega⟩
   obtain ⟨b, o, rfl, hcx⟩ := (Hr1.out.below Hb.out).2 (by omega)
   have z := hcx j (by omega)
   rw [rd_revBit (by omega)] at z
   have hc := HC.out
   rw [hiOf_succ] at hc
   have hbit : x / 2 ^ j % 2 ≤ 1 := by omega
   obtain ⟨bt, hbt⟩ : ∃ bt, bt = x / 2 ^ j % 2 := ⟨_, rfl⟩
   rw [← hbt] at z hbit hc
   have HC2 := Lib.hid hc
   have hsz := Hb.out.size
   obtain ⟨A2, c2, rfl⟩ := own_slice Ho.out
   have s1 : (((j + 1 : Nat) : Int) - 1).toNat = j := by omega
   have s2 : (((j + 1 : Nat) : Int) - 1) = (j : Int) := by omega
   clear hcx hbt hc
   rw [s2]
   go_wp2_with (at_builtin; refine wpList_app3 rfl _ _ rfl elB Ho.out rfl rfl rfl rfl rfl (by omega) hsz ?_; intro g7 cap7 w7 hown7 hfr7 hat7 hlt7)
   go_roundw
   case rel =>
    refine ⟨j, cur ++ [(bt : Int)], by omega, by go_num, by simp; omega, by rw [List.append_assoc]; exact HC2.out, ?_, Hb.out.trans (hfr7.below hsz (own_far Ho.out (Nat.le_refl _)))⟩
    rw [show n - j = n - (j + 1) + 1 from by omega, ints_append]
    exact hown7
   case measure => simp [intOf]
  ·obtain rfl : k = 0 := by omega
   have hc := HC.out
   rw [show hiOf x 0 = [] from rfl, List.append_nil] at hc
   rw [hc, Nat.sub_zero] at Ho
   have hw := Lib.hid (below_seq Hb1.out (Nat.le_refl _) Hb.out)
   have ho := Lib.hid (own_mono Ho.out Hb1.out.size)
   clear hc
   go_wp2
   go_ret
   exact ⟨_, rfl, ho.out, hw.out⟩
def lenV : Value → Nat
 | .slice _ n _ => n
 | _ => 0
def fullOf (L : List Int) : List Int := bitsOf (packB L) 0 (8 * ((L.length + 7) / 8))
theorem fullOf_front {L : List Int} (h : Bit01 L) : fullOf L = L ++ List.replicate (8 * ((L.length + 7) / 8) - L.length) 0 := by
 apply ext_rd (by unfold fullOf; rw [bitsOf_length, List.length_append, List.length_replicate]; omega)
 intro j hj
 unfold fullOf at hj ⊢
 rw [bitsOf_length] at hj
 rw [rd_bitsOf hj, Nat.zero_add, bitAt_packB h hj]
 have h1 := h.rd j
 rcases Nat.lt_or_ge j L.length with g | g
 ·rw [rd_appL g]
  omega
 ·rw [rd_out g]
  have e : j = L.length + (j - L.length) := by omega
  rw [e, rd_appR, rd_zeros]
  rfl
set_option maxHeartbeats 1000000 in set_option maxRecDepth 100000 in
theorem Full_calls (A : Option Addr) (m c : Nat) (L : List Int) (w : World) (hR : Rd w .u8 A m L) (hA : A = none → m = 0 ∧ c = 0) (hL : Bit01 L) (hm : m ≤ 10000000) :
  Calls Tryz.prog 19 #[.slice A m c] w fun e w' => ∃ v, e = .returned v ∧ w'.ownsRow w.heap.size 5 1 v (8 * ((m + 7) / 8)) (ints .u8 (fullOf L)) ∧ Below w.heap.size w w' := by
 have HR := Lib.hid hR
 have hl := Lib.hid hR.1
 have HA := Lib.hid hA
 clear hR hA
 go_enter Tryz.func19, Tryz.ntmps19
 go_wp2_with (at_builtin; refine wpList_appRd rfl _ _ rfl elB (ys := []) (own_empty w _) rfl rfl (HR.out.alloc _) HA.out (by omega) (by simp) ?_; intro v' w' hown hg; rw [Nat.zero_add, List.nil_append] at hown; have Hown := Lib.hid hown; have Hg := Lib.hid hg; clear hown hg)
 have Hb := Lib.hid (((Below.refl _ _).alloc (Nat.le_refl _) _).grown Hg.out (by simp) (fun k hk => by simp [Value.ownBlock] at hk; omega) : Below w.heap.size w w')
 clear Hg
 go_loopw [3] (fun v wr => ∃ k : Nat, m + k ≤ 8 * ((m + 7) / 8) ∧ Hid (wr.ownsRow w.heap.size 5 1 v (m + k) (ints .u8 (L ++ List.replicate k 0))) ∧ Hid (Below w.heap.size w wr)) (fun v _ => 8 * ((m + 7) / 8) - lenV v)
 case atStart => exact ⟨0, by omega, by rw [List.replicate_zero, List.append_nil]; exact Hown.out, Hb.out⟩
 case round =>
  obtain ⟨k, hk, Ho, Hbl⟩ := hrel
  have hsz := Hbl.out.size
  obtain ⟨A2, c2, rfl⟩ := own_slice Ho.out
  obtain ⟨q, hq⟩ : ∃ q, q = m + k := ⟨_, rfl⟩
  have ho := Ho.out
  rw [← hq] at ho hk ⊢
  have Ho2 := Lib.hid ho
  have Hq := Lib.hid hq
  have hq2 : q ≤ 10000010 := by omega
  clear ho hq
  by_cases h8 : q % 8 = 0
  ·have he : q = 8 * ((m + 7) / 8) := by have := Hq.out; omega
   have hfu := fullOf_front hL
   rw [hl.out] at hfu
   have e2 : fullOf L = L ++ List.replicate k 0 := by rw [hfu, ← he, Hq.out, Nat.add_sub_cancel_left]
   have E2 := Lib.hid e2
   have He := Lib.hid he
   have d0 : ((q : Int) % 8 == 0) = true := by rw [beq_iff_eq]; omega
   have d1 : (q : Int) % 8 = 0 := by omega
   clear hfu e2 he
   go_wp2
   go_ret
   exact ⟨_, rfl, by rw [← He.out, E2.out]; exact Ho2.out, Hbl.out⟩
  ·have hlt : q + 1 ≤ 8 * ((m + 7) / 8) := by have := Hq.out; omega
   have d0 : ((q : Int) % 8 == 0) = false := by rw [beq_eq_false_iff_ne]; omega
   have d1 : ¬ (q : Int) % 8 = 0 := by omega
   go_wp2_with (at_builtin; refine wpList_app3 rfl _ _ rfl elB Ho2.out rfl rfl rfl rfl rfl (by omega) hsz ?_; intro g7 cap7 w7 hown7 hfr7 hat7 hlt7)
   go_roundw
   case rel => exact ⟨k + 1, by have := Hq.out; omega, by rw [List.replicate_succ', ← List.append_assoc, ints_append, ← Nat.add_assoc, ← Hq.out]; exact hown7, Hbl.out.trans (hfr7.below hsz (own_far Ho2.out (Nat.le_refl _)))⟩
   case measure => simp [lenV]; omega
set_option maxHeartbeats 1000000 in set_option maxRecDepth 100000 in
theorem Bytes_calls (A : Option Addr) (m c : Nat) (L : List Int) (w : World) (hR : Rd w .u8 A m L) (hA : A = none → m = 0 ∧ c = 0) (hL : Bit01 L) (hm : m ≤ 10000000) :
  Calls Tryz.prog 11 #[.slice A m c] w fun e w' => ∃ v, e = .returned v ∧ w'.ownsRow w.heap.size 5 1 v ((m + 7) / 8) (ints .u8 (packB L)) ∧ Below w.heap.size w w' := by
 have hl := Lib.hid hR.1
 go_enter Tryz.func11, Tryz.ntmps11
 go_wp2_with fail
 refine (Full_calls A m c L _ hR hA hL hm).mono ?_
 rintro e w1 ⟨v1, rfl, ho1, hb1⟩
 obtain ⟨N, hN⟩ : ∃ N, N = (m + 7) / 8 := ⟨_, rfl⟩
 rw [← hN] at ho1
 have HN := Lib.hid hN
 have hlN : (L.length + 7) / 8 = N := by rw [hl.out, hN]
 obtain ⟨A1, c1, rfl, hc1, hr1⟩ := own_rd ho1
 unfold fullOf at hr1
 rw [hlN] at hr1
 have HlN := Lib.hid hlN
 have Hr1 := Lib.hid hr1
 have Hb1 := Lib.hid hb1
 have hN2 : N ≤ 1500000 := by omega
 clear ho1 hr1 hb1 hN hlN hR hA
 go_wp2
 go_loopw [4, 5] (fun v i wr => ∃ k : Nat, k ≤ N ∧ i = .int .i64 ((8 * k : Nat) : Int) ∧ Hid (wr.ownsRow w1.heap.size 5 1 v k (ints .u8 ((packB L).take k))) ∧ Hid (Below w1.heap.size w1 wr)) (fun _ i _ => 8 * N - (intOf i).toNat)
 case atStart => exact ⟨0, by omega, rfl, by rw [List.take_zero]; exact World.ownsRow_nil _ _ _ _, Below.refl _ _⟩
 case round =>
  obtain ⟨k, hk, rfl, Ho, Hb⟩ := hrel
  have hsz := Hb.out.size
  obtain ⟨A2, c2, rfl⟩ := own_slice Ho.out
  by_cases hlt : k < N
  ·obtain ⟨b, o, rfl, _⟩ := Hr1.out.2 (by omega)
   have hp := bits_part (Hr1.out.below Hb.out) (8 * k) 8 (by omega)
   rw [Nat.zero_add] at hp
   have hnum := numAt_byte hL (j := k) (by rw [HlN.out]; exact hlt)
   have hpl := packAt_lt hL k
   have hrd := rd_packB (L := L) (j := k) (by rw [HlN.out]; exact hlt)
   have htk : (packB L).take (k + 1) = (packB L).take k ++ [((packAt L k : Nat) : Int)] := by
    rw [List.take_succ_eq_append_getElem (by rw [packB_length, HlN.out]; exact hlt), ← rd_getElem, hrd]
   obtain ⟨X, hX⟩ : ∃ X, X = packAt L k := ⟨_, rfl⟩
   rw [← hX] at hnum hpl htk
   have Htk := Lib.hid htk
   have Hp := Lib.hid hp
   have Hnum := Lib.hid hnum
   obtain ⟨q, hq⟩ : ∃ q, q = 8 * k := ⟨_, rfl⟩
   rw [← hq]
   have Hq := Lib.hid hq
   have hq2 : q + 8 ≤ 8 * N := by omega
   have s1 : ((q : Int) + 8).toNat = q + 8 := by omega
   have sX : IntKind.u8.wrap (X : Int) = X := IntWalk.u8_in _ (by omega)
   clear htk hp hnum hX hrd hq
   go_wp2_with fail
   refine (Num_calls (some ⟨b, o + q, none⟩) 8 _ q (packB L) _ (by rw [Hq.out]; exact Hp.out) (by omega)).mono ?_
   rintro e w2 ⟨rfl, rfl⟩
   rw [Hq.out, Hnum.out]
   go_wp2_with (at_builtin; refine wpList_app3 rfl _ _ rfl elB Ho.out rfl rfl rfl rfl rfl (by omega) hsz ?_; intro g7 cap7 w7 hown7 hfr7 hat7 hlt7)
   have h77 : q = 8 * k := Hq.out
   have h78 : 8 * (k + 1) = q + 8 := by omega
   clear h77
   have H78 := Lib.hid h78
   clear h78
   go_roundw
   case rel => exact ⟨k + 1, by omega, by rw [H78.out]; have h77 : q = 8 * k := Hq.out; go_num, by rw [Htk.out, ints_append]; exact hown7, Hb.out.trans (hfr7.below hsz (own_far Ho.out (Nat.le_refl _)))⟩
   case measure =>
    have h77 : q = 8 * k := Hq.out
    simp [intOf]
    omega
  ·obtain rfl : k = N := by omega
   have ht : (packB L).take k = packB L := List.take_of_length_le (by rw [packB_length, HlN.out]; exact Nat.le_refl _)
   rw [ht] at Ho
   have hw := Lib.hid (below_seq Hb1.out (Nat.le_refl _) Hb.out)
   have ho := Lib.hid (own_mono Ho.out Hb1.out.size)
   clear ht
   go_wp2
   go_ret
   exact ⟨_, rfl, by rw [← HN.out]; exact ho.out, hw.out⟩
end Go.Proofs.YtdbkbeojedndbaaGreatDoor
namespace Go.Proofs.YtdbkbeojedndbaaGreatDoor
open Go.RowKit

theorem putS_len (xs ys : List Int) (hx : 257 ≤ xs.length) (hx2 : xs.length ≤ 286) (hy : 1 ≤ ys.length) (hy2 : ys.length ≤ 30) (h15 : ∀ j, 0 ≤ rd xs j ∧ rd xs j ≤ 15) (hy15 : ∀ j, 0 ≤ rd ys j ∧ rd ys j ≤ 15) : 14 ≤ (putS xs ys).length ∧ (putS xs ys).length ≤ 100000 := by
 have ta := tn_rng xs 257 (xs.length - 257)
 have tb := tn_rng ys 1 (ys.length - 1)
 have hok : ∀ it ∈ itsOf xs ys, ItemOk it := items_ok (fun j hj => by
  rcases Nat.lt_or_ge j (xs.take (tn xs 257 (xs.length - 257))).length with g | g
  ·rw [rd_appL g]
   have e : rd (xs.take (tn xs 257 (xs.length - 257))) j = rd xs j := by
    rw [List.length_take] at g
    unfold rd
    rw [List.getD_eq_getElem?_getD, List.getD_eq_getElem?_getD, List.getElem?_take_of_lt (by omega)]
   rw [e]
   exact h15 j
  ·obtain ⟨i, rfl⟩ : ∃ i, j = (xs.take (tn xs 257 (xs.length - 257))).length + i := ⟨j - (xs.take (tn xs 257 (xs.length - 257))).length, by omega⟩
   rw [rd_appR]
   rw [List.length_append] at hj
   have hj2 : i < (ys.take (tn ys 1 (ys.length - 1))).length := by omega
   have e : rd (ys.take (tn ys 1 (ys.length - 1))) i = rd ys i := by
    rw [List.length_take] at hj2
    unfold rd
    rw [List.getD_eq_getElem?_getD, List.getD_eq_getElem?_getD, List.getElem?_take_of_lt (by omega)]
   rw [e]
   exact hy15 i)
 have hl : (itsOf xs ys).length ≤ 400 := by
  have h1 := items_le (xs.take (tn xs 257 (xs.length - 257)) ++ ys.take (tn ys 1 (ys.length - 1)))
  rw [List.length_append, List.length_take, List.length_take] at h1
  unfold itsOf
  omega
 have hs : ∀ k, k < (itsOf xs ys).length → itS (itsOf xs ys) k ≤ 18 := fun k hk => (it_at hok hk).2.1
 have hm : manyOf (itsOf xs ys) ≤ 19 := (tn_rng _ 4 15).2
 have hb := bitsIt_length (lensIt (itsOf xs ys)) (itsOf xs ys) (lensIt_rng _ hs) (fun k hk => (it_at hok hk).2.2.1) _ (Nat.le_refl _)
 unfold putS headS
 simp only [List.length_append, lowOf_length, lows_length]
 omega
end Go.Proofs.YtdbkbeojedndbaaGreatDoor
namespace Go.Proofs.YtdbkbeojedndbaaGreatDoor
open Go.RowKit

theorem lensOk_of {xs : List Int} (h : ∀ j, 0 ≤ rd xs j ∧ rd xs j ≤ 15) : lensOk xs = true := by
 unfold lensOk
 rw [List.all_eq_true]
 intro x hx
 obtain ⟨j, hj, rfl⟩ := List.mem_iff_getElem.1 hx
 have := h j
 rw [rd_getElem hj] at this
 simpa using this
set_option maxHeartbeats 1000000 in
theorem open_calls (A C : Option Addr) (n m c1 c2 : Nat) (a b : List Int) (w : World) (hA : Rd w .i64 A n a) (hC : Rd w .i64 C m b) (hn : 0 < n) (hn2 : n ≤ 1000) (hm : 0 < m) (hm2 : m ≤ 1000) (ha : ∀ j, 0 ≤ rd a j ∧ rd a j ≤ 15) (hb : ∀ j, 0 ≤ rd b j ∧ rd b j ≤ 15) :
  Calls Tryz.prog 51 #[.slice A n c1, .slice C m c2] w fun e w' => ∃ kb gx gy c3 c4, e = .returned (.pointer (some ⟨kb, 0, none⟩)) ∧ w'.heap[kb]? = some (.cells #[.slice A n c1, .slice C m c2, .slice (some ⟨gx, 0, none⟩) n c3, .slice (some ⟨gy, 0, none⟩) m c4] 97 (0, 0)) ∧
   Hid (Rd w' .u64 (some ⟨gx, 0, none⟩) n (codesOf a)) ∧ Hid (Rd w' .u64 (some ⟨gy, 0, none⟩) m (codesOf b)) ∧ (w.heap.size ≤ kb ∧ w.heap.size ≤ gx ∧ w.heap.size ≤ gy ∧ gx < w'.heap.size ∧ gy < w'.heap.size ∧ kb < w'.heap.size) ∧ Below w.heap.size w w' := by
 have HA := Lib.hid hA
 have HC := Lib.hid hC
 have Hoa := Lib.hid (lensOk_of ha)
 have Hob := Lib.hid (lensOk_of hb)
 clear hA hC ha hb
 go_enter Tryz.func51, Tryz.ntmps51
 go_wp2_with fail
 refine (Codes_calls A n c1 a _ HA.out (by omega) Hoa.out).mono ?_
 rintro e w1 ⟨v1, rfl, ho1, hb1⟩
 obtain ⟨gx, cx, rfl, hg1, hg2, _, _, _⟩ := own_form ho1 hn
 obtain ⟨_, _, e1, _, hr1⟩ := own_rd ho1
 cases e1
 have HR1 := Lib.hid hr1
 have HB1 := Lib.hid hb1
 have hsz1 := hb1.size
 clear ho1 hr1 hb1
 go_wp2_with fail
 refine (Codes_calls C m c2 b _ (HC.out.below HB1.out) (by omega) Hob.out).mono ?_
 rintro e w2 ⟨v2, rfl, ho2, hb2⟩
 obtain ⟨gy, cy, rfl, hg3, hg4, _, _, _⟩ := own_form ho2 hm
 obtain ⟨_, _, e2, _, hr2⟩ := own_rd ho2
 cases e2
 have HR1' := Lib.hid (HR1.out.below hb2)
 have HR2 := Lib.hid hr2
 have HB2 := Lib.hid (below_seq HB1.out (Nat.le_refl _) hb2)
 have hsz2 := hb2.size
 clear ho2 hr2 hb2
 go_wp2
 go_ret
 refine ⟨w2.heap.size, gx, gy, cx, cy, rfl, heap_alloc_new w2 _, HR1'.out.alloc _, HR2.out.alloc _, ?_, below_new HB2.out (Nat.le_refl _) _⟩
 simp
 omega
theorem off_new {w : World} {B h : Nat} {L : List Int} {v : Value} (H : WrAt w B h L v) {g : Nat} (hg : w.heap.size ≤ g) : g ≠ h ∧ v.ownBlock ≠ some g :=
 ⟨fun e => by have := H.lt; omega, fun e => by have := (H.own.lt _ e).2; omega⟩
theorem tokOk_press {bs : List Int} {len : Nat} (hl : bs.length = len) (hb : ∀ j, j < len → 0 ≤ rd bs j ∧ rd bs j ≤ 255) : TokOk (pressL bs) := pressL_ok (fun j hj => hb j (by omega))
set_option maxHeartbeats 1000000 in set_option maxRecDepth 100000 in
theorem DFixed_calls (A : Option Addr) (len cap : Nat) (bs : List Int) (w : World) (hR : Rd w .u8 A len bs) (hb : ∀ j, j < len → 0 ≤ rd bs j ∧ rd bs j ≤ 255) (hcap : len ≤ cap) (hlen : len ≤ 100000) (hT : Tabs w) :
  Calls Tryz.prog 34 #[.slice A len cap] w fun e w' => ∃ v, e = .returned (.tuple #[v, .int .i64 (fixedS bs).length]) ∧ Hid (w'.ownsRow w.heap.size 5 1 v (packB (fixedS bs)).length (ints .u8 (packB (fixedS bs)))) ∧ (fixedS bs).length ≤ 8000000 ∧ Below w.heap.size w w' := by
 have HR := Lib.hid hR
 have Hb := Lib.hid hb
 have HT := Lib.hid hT
 have Hl := Lib.hid hR.1
 have hto : 1 < w.heap.size ∧ 2 < w.heap.size := ⟨World.block_lt_of_cell? _ _ (hT.1 0 (by decide)).1, World.block_lt_of_cell? _ _ (hT.2 0 (by decide)).1⟩
 have Hto := Lib.hid hto
 clear hR hb hT hto
 go_enter Tryz.func34, Tryz.ntmps34
 go_upto_region 2 with fail
 obtain ⟨W0, hW0⟩ : ∃ W, W = (w.alloc (.cells #[.slice none 0 0, .int .i64 0] 82)).alloc (.cells #[.pointer (some ⟨w.heap.size, 0, none⟩)] 84) := ⟨_, rfl⟩
 obtain ⟨wh, hh⟩ : ∃ wh, wh = w.heap.size := ⟨_, rfl⟩
 rw [← hh] at hW0
 rw [← hh, ← hW0]
 have hb0 : Below w.heap.size w W0 := by rw [hW0]; exact below_new ((Below.refl _ _).alloc (Nat.le_refl _) _) (Nat.le_refl _) _
 have hs0 : wh + 2 ≤ W0.heap.size := by rw [hW0, hh]; simp
 have hr0 : W0.heap[wh]? = some (.cells #[.slice none 0 0, .int .i64 0] 82 (0, 0)) := by
  rw [hW0, hh, Below.heap_alloc _ _ _ (by simp)]
  exact heap_alloc_new w _
 have hr1 : W0.heap[wh + 1]? = some (.cells #[.pointer (some ⟨wh, 0, none⟩)] 84 (0, 0)) := by
  have h9 := heap_alloc_new (w.alloc (.cells #[.slice none 0 0, .int .i64 0] 82)) (.cells #[.pointer (some ⟨wh, 0, none⟩)] 84)
  rw [hW0]
  simp only [World.size_alloc, ← hh] at h9
  exact h9
 have HWr0 : Hid (WrAt W0 wh wh [] (.slice none 0 0)) := ⟨hr0, World.ownsRow_nil _ _ _ _, fun z hz => by cases hz⟩
 have Hh := Lib.hid hh
 have Hb0 := Lib.hid hb0
 have Hr1 := Lib.hid hr1
 have q := cell_of_row W0 (wh + 1) 0 _ _ (0, 0) hr1
 simp only [List.getElem?_toArray, List.getElem?_cons_zero] at q
 clear hW0 hh hb0 hr0 hr1
 go_wp2_with fail
 refine (Put_calls wh wh 1 [] _ (some ⟨W0.heap.size, 0, none⟩) 1 1 [1] _ (HWr0.out.below ((Below.refl _ _).alloc (Nat.le_refl _) _)) (Blk.rd (heap_alloc_new W0 _) rfl) (fun j hj => ?_) (by omega) (fun b o e => HWr0.out.fresh e) (by simp) (by simp; omega)).mono ?_
 ·obtain rfl : j = 0 := by omega
  decide
 rintro e w1 ⟨v1, rfl, hw1, hs1⟩
 rw [show lows [1] 1 1 = [1] from by decide, List.nil_append] at hw1
 have HW1 := Lib.hid hw1
 have HT1 := Lib.hid (WStep.after ((Below.refl _ _).alloc (Nat.le_refl _) _) hs1)
 have q1 := cell_of_row w1 (wh + 1) 0 _ _ (0, 0) (HT1.out.blk HWr0.out Hr1.out (by decide) (by omega))
 simp only [List.getElem?_toArray, List.getElem?_cons_zero] at q1
 have hsz1 := HT1.out.fr.size
 clear hw1 hs1 q
 go_wp2_with fail
 refine (Put_calls wh wh 2 _ v1 (some ⟨w1.heap.size, 0, none⟩) 1 1 [1] _ (HW1.out.below ((Below.refl _ _).alloc (Nat.le_refl _) _)) (Blk.rd (heap_alloc_new w1 _) rfl) (fun j hj => ?_) (by omega) (fun b o e => HW1.out.fresh e) (by decide) (by simp; omega)).mono ?_
 ·obtain rfl : j = 0 := by omega
  decide
 rintro e w2 ⟨v2, rfl, hw2, hs2⟩
 rw [show lows [1] 2 1 = [1, 0] from by decide, show [(1 : Int)] ++ [1, 0] = [1, 1, 0] from rfl] at hw2
 have HW2 := Lib.hid hw2
 have HT2 := Lib.hid (HT1.out.trans (WStep.after ((Below.refl _ _).alloc (Nat.le_refl _) _) hs2))
 have q2 := cell_of_row w2 (wh + 1) 0 _ _ (0, 0) (HT2.out.blk HWr0.out Hr1.out (by decide) (by omega))
 simp only [List.getElem?_toArray, List.getElem?_cons_zero] at q2
 have hsz2 := HT2.out.fr.size
 have Hb2 := Lib.hid (Hb0.out.trans (wst_below HT2.out (Nat.le_of_eq Hh.out.symm) Hb0.out.size))
 have HR1 := Lib.hid (HR.out.below Hb2.out)
 have qL := Later.cell q2
 have L0 : Later w2 w2.drew := (Later.refl w2).drew
 clear hw2 hs2 q1 q2
 go_upto_region 4 with fail
 refine wp_region_last (n := 8) (on := ⟨_, _, _, _, _, _⟩) (S := fun W => Later w2 W) (by kernel_rfl) rfl (by kernel_rfl) (L0) (fun hHeld => ?_)
 refine' wpAnyH_take (i := 4) (oi := ⟨_, _, _, _, _, _⟩) rfl (by kernel_rfl) (by kernel_rfl) (by kernel_rfl) (fun _ _ _ h => h) (Or.inl ⟨by rfl, ?a0⟩) (by assumption) ?b0
 case a0 => (intro w hSw; (try dsimp only at hSw); go_simp; try with_reducible rfl)
 try simp only [Act.put, List.setIfInBounds_toArray, List.set_cons_zero, List.set_cons_succ]
 refine' wpAnyH_take (i := 5) (oi := ⟨_, _, _, _, _, _⟩) rfl (by kernel_rfl) (by kernel_rfl) (by kernel_rfl) (fun _ _ _ h => h) (Or.inl ⟨by rfl, ?a1⟩) (by assumption) ?b1
 case a1 => (intro w hSw; (try dsimp only at hSw); go_simp; try with_reducible rfl)
 try simp only [Act.put, List.setIfInBounds_toArray, List.set_cons_zero, List.set_cons_succ]
 refine' wpAnyH_take (i := 6) (oi := ⟨_, _, _, _, _, _⟩) rfl (by kernel_rfl) (by kernel_rfl) (by kernel_rfl) (fun _ _ _ h => h) (Or.inl ⟨by rfl, ?a2⟩) (by assumption) ?b2
 case a2 => (intro w hSw; (try dsimp only at hSw); go_simp; try with_reducible rfl)
 try simp only [Act.put, List.setIfInBounds_toArray, List.set_cons_zero, List.set_cons_succ]
 refine wpAnyH_ready (rs := [0]) (by kernel_rfl) (by simp) ?_
 refine AllReadyH.cons (o := ⟨_, _, _, _, _, _⟩) rfl (fun K hK => ?_) AllReadyH.nil
 go_simp
 go_at_call 41
 refine (Fixed_calls _).mono ?_
 rintro e wA ⟨ga, gb, rfl, hoA, hoB, hbA⟩
 obtain ⟨_, _, e1, _, hrA⟩ := own_rd hoA
 cases e1
 obtain ⟨_, _, e2, _, hrB⟩ := own_rd hoB
 cases e2
 have hgA := hoA.lt ga rfl
 have hgB := hoB.lt gb rfl
 have L1 : Later w2 wA := Later.step hHeld hbA
 have hszA := hHeld.bel.size
 have HrA := Lib.hid hrA
 have HrB := Lib.hid hrB
 clear hoA hoB hbA hrA hrB
 refine hK.out _ _ (L1) (fun hHeldN => ?_)
 clear hK K hHeld
 have hHeld := hHeldN
 clear hHeldN
 try simp only [Act.put, List.setIfInBounds_toArray, List.set_cons_zero, List.set_cons_succ]
 refine' wpAnyH_take (i := 1) (oi := ⟨_, _, _, _, _, _⟩) rfl (by kernel_rfl) (by kernel_rfl) (by kernel_rfl) (fun _ _ _ h => h) (Or.inl ⟨by rfl, ?a3⟩) (by assumption) ?b3
 case a3 => (intro w hSw; (try dsimp only at hSw); go_simp; try with_reducible rfl)
 try simp only [Act.put, List.setIfInBounds_toArray, List.set_cons_zero, List.set_cons_succ]
 refine' wpAnyH_take (i := 2) (oi := ⟨_, _, _, _, _, _⟩) rfl (by kernel_rfl) (by kernel_rfl) (by kernel_rfl) (fun _ _ _ h => h) (Or.inl ⟨by rfl, ?a4⟩) (by assumption) ?b4
 case a4 => (intro w hSw; (try dsimp only at hSw); go_simp; try with_reducible rfl)
 try simp only [Act.put, List.setIfInBounds_toArray, List.set_cons_zero, List.set_cons_succ]
 refine wpAnyH_ready (rs := [3]) (by kernel_rfl) (by simp) ?_
 refine AllReadyH.cons (o := ⟨_, _, _, _, _, _⟩) rfl (fun K hK => ?_) AllReadyH.nil
 go_simp
 go_at_call 51
 refine (open_calls _ _ 288 32 288 32 fixA fixB _ HrA.out HrB.out (by decide) (by decide) (by decide) (by decide) fixA_rng fixB_rng).mono ?_
 rintro e wB ⟨kb, gx, gy, c3, c4, rfl, hkb, HX, HY, hnew, hbB⟩
 have L2 : Later w2 wB := Later.step L1 hbB
 have Hkb := Lib.hid hkb
 have HrA2 := Lib.hid (HrA.out.below hbB)
 have HrB2 := Lib.hid (HrB.out.below hbB)
 clear hkb hbB
 refine hK.out _ _ (L2) (fun hHeldN => ?_)
 clear hK K hHeld
 have hHeld := hHeldN
 clear hHeldN
 try simp only [Act.put, List.setIfInBounds_toArray, List.set_cons_zero, List.set_cons_succ]
 refine wpAnyH_ready (rs := [7]) (by kernel_rfl) (by simp) ?_
 refine AllReadyH.cons (o := ⟨_, _, _, _, _, _⟩) rfl (fun K hK => ?_) AllReadyH.nil
 go_simp
 go_at_call 53
 refine (LPress_calls A len cap bs _ (HR1.out.below L2.bel) Hb.out (by omega) hcap).mono ?_
 rintro e wC ⟨vt, rfl, hot, hbC⟩
 obtain ⟨At, ct, rfl, htk⟩ := own_toks hot
 have hnt : Hid (∀ g o, At = some ⟨g, o, none⟩ → wB.heap.size ≤ g) := fun g o e => (hot.lt g (by rw [e]; rfl)).1
 have L3 : Later w2 wC := Later.step L2 hbC
 have HbC := Lib.hid hbC
 have Htk := Lib.hid htk
 clear hot hbC htk
 refine hK.out _ _ (L3) (fun hHeldN => ?_)
 clear hK K hHeld
 have hHeld := hHeldN
 clear hHeldN
 try simp only [Act.put, List.setIfInBounds_toArray, List.set_cons_zero, List.set_cons_succ]
 refine wpAnyH_done (by kernel_rfl) ?_ _
 change wpList _ _ _ _ _ _
 clear qL hHeld
 go_wp2_with fail
 have hpl := pressL_length bs
 rw [Hl.out] at hpl
 have hszB : wB.heap.size ≤ wC.heap.size := HbC.out.size
 have hbk : Book wC wh v2 kb (some ⟨ga, 0, none⟩) (some ⟨gb, 0, none⟩) (some ⟨gx, 0, none⟩) (some ⟨gy, 0, none⟩) 288 32 288 32 c3 c4 fixA fixB :=
  ⟨(HbC.out.block kb (by omega)).trans Hkb.out, HrA2.out.below HbC.out, HrB2.out.below HbC.out, HX.out.below HbC.out, HY.out.below HbC.out,
   fun b o e => by cases e; exact off_new HW2.out (by omega), fun b o e => by cases e; exact off_new HW2.out (by omega), fun b o e => by cases e; exact off_new HW2.out (by omega), fun b o e => by cases e; exact off_new HW2.out (by omega), off_new HW2.out (by omega)⟩
 refine (tokens_calls wh wh kb 288 32 288 32 c3 c4 (pressL bs).length ct [1, 1, 0] v2 _ _ _ _ At fixA fixB (pressL bs) _ (HW2.out.below L3.bel) hbk Htk.out (fun b o e => off_new HW2.out (Nat.le_trans (by have := L2.bel.size; omega) (hnt.out b o e))) (tokOk_press Hl.out Hb.out) (HT.out.below (Hb2.out.trans (L3.bel.mono Hb2.out.size))) (by have := Hto.out; have := Hh.out; omega) (Nat.le_refl _) (by decide) (by decide) (by decide) (by decide) fixA_rng fixB_rng (by omega) (by decide) (by have := L3.bel.size; omega)).mono ?_
 rintro e w5 ⟨v5, rfl, hw5, hs5⟩
 have e5 : [1, 1, 0] ++ toksS fixA fixB (pressL bs) = fixedS bs := rfl
 rw [e5] at hw5
 have HW5 := Lib.hid hw5
 have HT5 := Lib.hid (HT2.out.trans (WStep.after L3.bel hs5))
 have q5 := cell_of_row w5 (wh + 1) 0 _ _ (0, 0) (HT5.out.blk HWr0.out Hr1.out (by decide) (by omega))
 simp only [List.getElem?_toArray, List.getElem?_cons_zero] at q5
 have qL := Later.cell q5
 have L0 : Later w5 w5.drew := (Later.refl w5).drew
 have hlen5 : (fixedS bs).length ≤ 8000000 := by
  have h1 := toksTo_len fixA_rng fixB_rng (tokOk_press Hl.out Hb.out) (pressL bs).length (Nat.le_refl _)
  rw [toksTo_all] at h1
  have h2 := symCode_len fixA_rng 256
  unfold fixedS toksS
  rw [List.length_append, List.length_append]
  show 3 + (_ + _) ≤ _
  omega
 have hsz5 := HT5.out.fr.size
 have Hb5 := Lib.hid (Hb0.out.trans (wst_below HT5.out (Nat.le_of_eq Hh.out.symm) Hb0.out.size))
 have HL5 := Lib.hid hlen5
 clear hw5 hs5 q5 e5 hlen5 hbk hnt Htk L3 L2 L1 hnew hszB hszA hgA hgB HbC Hkb HrA2 HrB2 HX HY
 go_upto_region 5 with fail
 refine wp_region_noPanic ?_
 refine wp_region_held_drew (S := fun W => Later w5 W) (by kernel_rfl) (L0) (fun hHeld => ?_)
 refine' wpAnyH_take (i := 0) (oi := ⟨_, _, _, _, _, _⟩) rfl (by kernel_rfl) (by kernel_rfl) (by kernel_rfl) (fun _ _ _ h => h) (Or.inl ⟨by rfl, ?a5⟩) (by assumption) ?b5
 case a5 => (intro w hSw; (try dsimp only at hSw); go_simp; try with_reducible rfl)
 try simp only [Act.put, List.setIfInBounds_toArray, List.set_cons_zero, List.set_cons_succ]
 refine' wpAnyH_take (i := 1) (oi := ⟨_, _, _, _, _, _⟩) rfl (by kernel_rfl) (by kernel_rfl) (by kernel_rfl) (fun _ _ _ h => h) (Or.inl ⟨by rfl, ?a6⟩) (by assumption) ?b6
 case a6 => (intro w hSw; (try dsimp only at hSw); go_simp; try with_reducible rfl)
 try simp only [Act.put, List.setIfInBounds_toArray, List.set_cons_zero, List.set_cons_succ]
 refine' wpAnyH_take (i := 3) (oi := ⟨_, _, _, _, _, _⟩) rfl (by kernel_rfl) (by kernel_rfl) (by kernel_rfl) (fun _ _ _ h => h) (Or.inl ⟨by rfl, ?a7⟩) (by assumption) ?b7
 case a7 => (intro w hSw; (try dsimp only at hSw); go_simp; try with_reducible rfl)
 try simp only [Act.put, List.setIfInBounds_toArray, List.set_cons_zero, List.set_cons_succ]
 refine' wpAnyH_take (i := 4) (oi := ⟨_, _, _, _, _, _⟩) rfl (by kernel_rfl) (by kernel_rfl) (by kernel_rfl) (fun _ _ _ h => h) (Or.inl ⟨by rfl, ?a8⟩) (by assumption) ?b8
 case a8 => (intro w hSw; (try dsimp only at hSw); go_simp; try with_reducible rfl)
 try simp only [Act.put, List.setIfInBounds_toArray, List.set_cons_zero, List.set_cons_succ]
 refine wpAnyH_ready (rs := [2]) (by kernel_rfl) (by simp) ?_
 refine AllReadyH.cons (o := ⟨_, _, _, _, _, _⟩) rfl (fun K hK => ?_) AllReadyH.nil
 go_simp
 go_at_call 50
 refine (WBytes_calls _ wh _ v5 _ (HW5.out.below hHeld.bel) (by have := HL5.out; omega)).mono ?_
 rintro e wA ⟨vA, rfl, hoA, hbA⟩
 have L1 : Later w5 wA := Later.step hHeld hbA
 have HoA := Lib.hid (own_mono hoA (Nat.le_trans Hb5.out.size hHeld.bel.size))
 clear hoA hbA
 refine hK.out _ _ (L1) (fun hHeldN => ?_)
 clear hK K hHeld
 have hHeld := hHeldN
 clear hHeldN
 try simp only [Act.put, List.setIfInBounds_toArray, List.set_cons_zero, List.set_cons_succ]
 refine wpAnyH_ready (rs := [5]) (by kernel_rfl) (by simp) ?_
 refine AllReadyH.cons (o := ⟨_, _, _, _, _, _⟩) rfl (fun K hK => ?_) AllReadyH.nil
 go_simp
 go_at_call 54
 refine (WLen_calls _ wh _ v5 _ (HW5.out.below hHeld.bel) (by have := HL5.out; omega)).mono ?_
 rintro e wB ⟨rfl, hbB⟩
 have L2 : Later w5 wB := Later.step hHeld hbB
 have HoB := Lib.hid (own_below HoA.out hbB)
 clear hbB
 refine hK.out _ _ (L2) (fun hHeldN => ?_)
 clear hK K hHeld
 have hHeld := hHeldN
 clear hHeldN
 try simp only [Act.put, List.setIfInBounds_toArray, List.set_cons_zero, List.set_cons_succ]
 refine' wpAnyH_take (i := 6) (oi := ⟨_, _, _, _, _, _⟩) rfl (by kernel_rfl) (by kernel_rfl) (by kernel_rfl) (fun _ _ _ h => h) (Or.inl ⟨by rfl, ?a9⟩) (by assumption) ?b9
 case a9 => (intro w hSw; (try dsimp only at hSw); go_simp; try with_reducible rfl)
 try simp only [Act.put, List.setIfInBounds_toArray, List.set_cons_zero, List.set_cons_succ]
 refine' wpAnyH_take (i := 7) (oi := ⟨_, _, _, _, _, _⟩) rfl (by kernel_rfl) (by kernel_rfl) (by kernel_rfl) (fun _ _ _ h => h) (Or.inl ⟨by rfl, ?a10⟩) (by assumption) ?b10
 case a10 => (intro w hSw; (try dsimp only at hSw); go_simp; try with_reducible rfl)
 try simp only [Act.put, List.setIfInBounds_toArray, List.set_cons_zero, List.set_cons_succ]
 refine wpAnyH_done (by kernel_rfl) ?_ _
 refine NoPanic.normal ?_
 go_wp2
 go_ret2
 exact ⟨_, rfl, by rw [packB_length]; exact HoB.out, HL5.out, Hb5.out.trans (L2.bel.mono Hb5.out.size)⟩
theorem off_old {w : World} {B h : Nat} {L : List Int} {v : Value} (H : WrAt w B h L v) (hB : B ≤ h) {g : Nat} (hg : g < B) : g ≠ h ∧ v.ownBlock ≠ some g :=
 ⟨fun e => by omega, fun e => by have := (H.own.lt _ e).1; omega⟩
theorem tokWf_press {ts : List Tok} (h : TokOk ts) : TokWf ts ts.length := fun j hj => by
 obtain ⟨h1, h2⟩ := h j hj
 rcases tokOk_cases h2 with h3 | h3 <;> refine ⟨h1, ?_, ?_⟩ <;> omega
set_option maxHeartbeats 1000000 in set_option maxRecDepth 100000 in
theorem DDyn_calls (A : Option Addr) (len cap : Nat) (bs : List Int) (w : World) (hR : Rd w .u8 A len bs) (hb : ∀ j, j < len → 0 ≤ rd bs j ∧ rd bs j ≤ 255) (hcap : len ≤ cap) (hlen : len ≤ 100000) (hT : Tabs w) (hO : OrdAt w) :
  Calls Tryz.prog 35 #[.slice A len cap] w fun e w' => ∃ v, e = .returned (.tuple #[v, .int .i64 (dynS bs).length]) ∧ Hid (w'.ownsRow w.heap.size 5 1 v (packB (dynS bs)).length (ints .u8 (packB (dynS bs)))) ∧ (dynS bs).length ≤ 8000000 ∧ Below w.heap.size w w' := by
 have HR := Lib.hid hR
 have Hb := Lib.hid hb
 have HT := Lib.hid hT
 have HO := Lib.hid hO
 have Hl := Lib.hid hR.1
 have hto : 1 < w.heap.size ∧ 2 < w.heap.size ∧ 0 < w.heap.size := ⟨World.block_lt_of_cell? _ _ (hT.1 0 (by decide)).1, World.block_lt_of_cell? _ _ (hT.2 0 (by decide)).1, World.block_lt_of_cell? _ _ (hO 0 (by decide))⟩
 have Hto := Lib.hid hto
 have Hok := Lib.hid (tokOk_press hR.1 hb)
 have Hpl := Lib.hid (pressL_length bs)
 clear hR hb hT hto hO
 go_enter Tryz.func35, Tryz.ntmps35
 go_wp2_with fail
 refine (LPress_calls A len cap bs _ HR.out Hb.out (by omega) hcap).mono ?_
 rintro e w1 ⟨vt, rfl, hot, hb1⟩
 obtain ⟨ts, hts⟩ : ∃ ts, ts = pressL bs := ⟨_, rfl⟩
 have hpl := Hpl.out
 rw [Hl.out] at hpl
 rw [← hts] at hot Hok hpl
 have Hts := Lib.hid hts
 have hnt := fun g (e : vt.ownBlock = some g) => (hot.lt g e)
 obtain ⟨At, ct, rfl, htk⟩ := own_toks hot
 have Hnt : Hid (∀ g o, At = some ⟨g, o, none⟩ → g < w1.heap.size) := fun g o e => (hnt g (by rw [e]; rfl)).2
 have Htk := Lib.hid htk
 have Hb1 := Lib.hid hb1
 have hsz1 := hb1.size
 obtain ⟨nt, hnte⟩ : ∃ n, n = ts.length := ⟨_, rfl⟩
 rw [← hnte] at hpl Htk ⊢
 have Hnl := Lib.hid hnte
 clear hot htk hb1 hts hnt hnte
 go_wp2_with fail
 refine (Weights_calls At nt ct ts _ Htk.out (by omega) (by rw [Hnl.out]; exact tokWf_press Hok.out) (fun j hj => (Hok.out j (by rw [← Hnl.out]; exact hj)).2) (HT.out.below Hb1.out)).mono ?_
 rintro e w2 ⟨ga, gb, la, lb, rfl, hoa, hob, Hla, Hlb, hb2⟩
 have hla : la = wtsA ts := wtsA_is (by have := hoa.1; simpa [ints] using this) Hla.out
 have hlb : lb = wtsD ts := wtsD_is (by have := hob.1; simpa [ints] using this) Hlb.out
 rw [hla] at hoa
 rw [hlb] at hob
 obtain ⟨_, _, e1, _, hra⟩ := own_rd hoa
 cases e1
 obtain ⟨_, _, e2, _, hrb⟩ := own_rd hob
 cases e2
 have Hra := Lib.hid hra
 have Hrb := Lib.hid hrb
 have Htk2 := Lib.hid (Htk.out.below hb2)
 have Hb2 := Lib.hid (below_seq Hb1.out (Nat.le_refl _) hb2)
 have hsz2 := hb2.size
 have hsA := wtsA_sum ts
 have hsD := wtsD_sum ts
 rw [← Hnl.out] at hsA hsD
 clear hoa hob hra hrb Hla Hlb hla hlb hb2
 go_wp2_with fail
 refine (Lengths_calls 15 _ 286 286 (wtsA ts) _ (by omega) Hra.out (fun e => by cases e) (by omega) (fun x hx => (wtsA_mem x hx).1) (by omega) (Nat.le_trans (posTo_le _ _) (by rw [wtsA_length]; decide))).mono ?_
 rintro e w3 ⟨v3, rfl, ho3, hb3⟩
 rw [show lensOf 15 (wtsA ts) = lenA ts from rfl] at ho3
 obtain ⟨g3, c3, rfl, _, hg3, hc3, _, _⟩ := own_form ho3 (by decide)
 obtain ⟨_, _, e3, _, hr3⟩ := own_rd ho3
 cases e3
 have Hr3 := Lib.hid hr3
 have Hrb3 := Lib.hid (Hrb.out.below hb3)
 have Htk3 := Lib.hid (Htk2.out.below hb3)
 have Hb3 := Lib.hid (below_seq Hb2.out (Nat.le_refl _) hb3)
 have hsz3 := hb3.size
 clear ho3 hr3 hb3
 go_wp2_with fail
 refine (Lengths_calls 15 _ 30 30 (wtsD ts) _ (by omega) Hrb3.out (fun e => by cases e) (by omega) (fun x hx => (wtsD_mem x hx).1) (by omega) (Nat.le_trans (posTo_le _ _) (by rw [wtsD_length]; decide))).mono ?_
 rintro e w4 ⟨v4, rfl, ho4, hb4⟩
 rw [show lensOf 15 (wtsD ts) = lenD ts from rfl] at ho4
 obtain ⟨g4, c4, rfl, _, hg4, hc4, _, _⟩ := own_form ho4 (by decide)
 obtain ⟨_, _, e4, _, hr4⟩ := own_rd ho4
 cases e4
 have Hr4 := Lib.hid hr4
 have Hr34 := Lib.hid (Hr3.out.below hb4)
 have Htk4 := Lib.hid (Htk3.out.below hb4)
 have Hb4 := Lib.hid (below_seq Hb3.out (Nat.le_refl _) hb4)
 have hsz4 := hb4.size
 clear ho4 hr4 hb4
 go_wp2_with fail
 refine (open_calls _ _ 286 30 c3 c4 (lenA ts) (lenD ts) _ Hr34.out Hr4.out (by decide) (by decide) (by decide) (by decide) (lenA_rng ts) (lenD_rng ts)).mono ?_
 rintro e w5 ⟨kb, gx, gy, c5, c6, rfl, hkb, HX, HY, hnew, hb5⟩
 have Hkb := Lib.hid hkb
 have Hr5A := Lib.hid (Hr34.out.below hb5)
 have Hr5D := Lib.hid (Hr4.out.below hb5)
 have Htk5 := Lib.hid (Htk4.out.below hb5)
 have Hb5 := Lib.hid (below_seq Hb4.out (Nat.le_refl _) hb5)
 have hsz5 := hb5.size
 clear hkb hb5
 go_upto_region 5 with fail
 obtain ⟨W0, hW0⟩ : ∃ W, W = (w5.alloc (.cells #[.slice none 0 0, .int .i64 0] 82)).alloc (.cells #[.pointer (some ⟨w5.heap.size, 0, none⟩)] 84) := ⟨_, rfl⟩
 obtain ⟨wh, hh⟩ : ∃ wh, wh = w5.heap.size := ⟨_, rfl⟩
 rw [← hh] at hW0
 rw [← hh, ← hW0]
 have hb0 : Below wh w5 W0 := by rw [hW0, hh]; exact below_new ((Below.refl _ _).alloc (Nat.le_refl _) _) (Nat.le_refl _) _
 have hs0 : wh + 2 ≤ W0.heap.size := by rw [hW0, hh]; simp
 have hr0 : W0.heap[wh]? = some (.cells #[.slice none 0 0, .int .i64 0] 82 (0, 0)) := by
  rw [hW0, hh, Below.heap_alloc _ _ _ (by simp)]
  exact heap_alloc_new w5 _
 have hr1 : W0.heap[wh + 1]? = some (.cells #[.pointer (some ⟨wh, 0, none⟩)] 84 (0, 0)) := by
  have h9 := heap_alloc_new (w5.alloc (.cells #[.slice none 0 0, .int .i64 0] 82)) (.cells #[.pointer (some ⟨wh, 0, none⟩)] 84)
  rw [hW0]
  simp only [World.size_alloc, ← hh] at h9
  exact h9
 have HWr0 : Hid (WrAt W0 wh wh [] (.slice none 0 0)) := ⟨hr0, World.ownsRow_nil _ _ _ _, fun z hz => by cases hz⟩
 have hkl : kb < wh ∧ gx < wh ∧ gy < wh ∧ g3 < wh ∧ g4 < wh ∧ w1.heap.size ≤ wh ∧ w.heap.size ≤ wh := by rw [hh]; omega
 have Hkl := Lib.hid hkl
 have Hh := Lib.hid hh
 have Hb0 := Lib.hid hb0
 have Hr1 := Lib.hid hr1
 have q := cell_of_row W0 (wh + 1) 0 _ _ (0, 0) hr1
 simp only [List.getElem?_toArray, List.getElem?_cons_zero] at q
 clear hW0 hh hb0 hr0 hr1 hkl
 go_wp2_with fail
 refine (Put_calls wh wh 1 [] _ (some ⟨W0.heap.size, 0, none⟩) 1 1 [1] _ (HWr0.out.below ((Below.refl _ _).alloc (Nat.le_refl _) _)) (Blk.rd (heap_alloc_new W0 _) rfl) (fun j hj => ?_) (by omega) (fun b o e => HWr0.out.fresh e) (by simp) (by simp; omega)).mono ?_
 ·obtain rfl : j = 0 := by omega
  decide
 rintro e w6a ⟨v1, rfl, hw1, hs1⟩
 rw [show lows [1] 1 1 = [1] from by decide, List.nil_append] at hw1
 have HW1 := Lib.hid hw1
 have HT1 := Lib.hid (WStep.after ((Below.refl _ _).alloc (Nat.le_refl _) _) hs1)
 have q1 := cell_of_row w6a (wh + 1) 0 _ _ (0, 0) (HT1.out.blk HWr0.out Hr1.out (by decide) (by omega))
 simp only [List.getElem?_toArray, List.getElem?_cons_zero] at q1
 have hsz6a := HT1.out.fr.size
 clear hw1 hs1 q
 go_wp2_with fail
 refine (Put_calls wh wh 2 _ v1 (some ⟨w6a.heap.size, 0, none⟩) 1 1 [2] _ (HW1.out.below ((Below.refl _ _).alloc (Nat.le_refl _) _)) (Blk.rd (heap_alloc_new w6a _) rfl) (fun j hj => ?_) (by omega) (fun b o e => HW1.out.fresh e) (by decide) (by simp; omega)).mono ?_
 ·obtain rfl : j = 0 := by omega
  decide
 rintro e w6 ⟨v2, rfl, hw2, hs2⟩
 rw [show lows [2] 2 1 = [0, 1] from by decide, show [(1 : Int)] ++ [0, 1] = [1, 0, 1] from rfl] at hw2
 have HW2 := Lib.hid hw2
 have HT2 := Lib.hid (HT1.out.trans (WStep.after ((Below.refl _ _).alloc (Nat.le_refl _) _) hs2))
 have q2 := cell_of_row w6 (wh + 1) 0 _ _ (0, 0) (HT2.out.blk HWr0.out Hr1.out (by decide) (by omega))
 have Hb6 := Lib.hid (Hb0.out.trans (wst_below HT2.out (Nat.le_refl _) (by omega)))
 have hkr := (Hb6.out.block kb Hkl.out.1).trans Hkb.out
 have k0 := cell_of_row w6 kb 0 _ _ (0, 0) hkr
 have k1 := cell_of_row w6 kb 1 _ _ (0, 0) hkr
 simp only [List.getElem?_toArray, List.getElem?_cons_succ, List.getElem?_cons_zero] at q2 k0 k1
 have hsz6 := HT2.out.fr.size
 have L0 : Later w6 w6.drew := (Later.refl w6).drew
 have qL := Later.cell q2
 have kL0 := Later.cell k0
 have kL1 := Later.cell k1
 have H6A := Lib.hid (Hr5A.out.belowB Hb6.out (fun _ b o e => by cases e; exact Hkl.out.2.2.2.1))
 have H6D := Lib.hid (Hr5D.out.belowB Hb6.out (fun _ b o e => by cases e; exact Hkl.out.2.2.2.2.1))
 have HbW6 := Lib.hid (Hb5.out.trans (Hb6.out.mono Hkl.out.2.2.2.2.2.2))
 clear hw2 hs2 q1 q2 k0 k1 hkr
 go_upto_region 7 with fail
 refine wp_region_last (n := 10) (on := ⟨_, _, _, _, _, _⟩) (S := fun W => Later w6 W) (by kernel_rfl) rfl (by kernel_rfl) (L0) (fun hHeld => ?_)
 refine' wpAnyH_take (i := 0) (oi := ⟨_, _, _, _, _, _⟩) rfl (by kernel_rfl) (by kernel_rfl) (by kernel_rfl) (fun _ _ _ h => h) (Or.inl ⟨by rfl, ?a11⟩) (by assumption) ?b11
 case a11 => (intro w hSw; (try dsimp only at hSw); go_simp; try with_reducible rfl)
 try simp only [Act.put, List.setIfInBounds_toArray, List.set_cons_zero, List.set_cons_succ]
 refine' wpAnyH_take (i := 1) (oi := ⟨_, _, _, _, _, _⟩) rfl (by kernel_rfl) (by kernel_rfl) (by kernel_rfl) (fun _ _ _ h => h) (Or.inl ⟨by rfl, ?a12⟩) (by assumption) ?b12
 case a12 => (intro w hSw; (try dsimp only at hSw); go_simp; try with_reducible rfl)
 try simp only [Act.put, List.setIfInBounds_toArray, List.set_cons_zero, List.set_cons_succ]
 refine' wpAnyH_take (i := 2) (oi := ⟨_, _, _, _, _, _⟩) rfl (by kernel_rfl) (by kernel_rfl) (by kernel_rfl) (fun _ _ _ h => h) (Or.inl ⟨by rfl, ?a13⟩) (by assumption) ?b13
 case a13 => (intro w hSw; (try dsimp only at hSw); go_simp; try with_reducible rfl)
 try simp only [Act.put, List.setIfInBounds_toArray, List.set_cons_zero, List.set_cons_succ]
 refine' wpAnyH_take (i := 3) (oi := ⟨_, _, _, _, _, _⟩) rfl (by kernel_rfl) (by kernel_rfl) (by kernel_rfl) (fun _ _ _ h => h) (Or.inl ⟨by rfl, ?a14⟩) (by assumption) ?b14
 case a14 => (intro w hSw; (try dsimp only at hSw); go_simp; try with_reducible rfl)
 try simp only [Act.put, List.setIfInBounds_toArray, List.set_cons_zero, List.set_cons_succ]
 refine' wpAnyH_take (i := 4) (oi := ⟨_, _, _, _, _, _⟩) rfl (by kernel_rfl) (by kernel_rfl) (by kernel_rfl) (fun _ _ _ h => h) (Or.inl ⟨by rfl, ?a15⟩) (by assumption) ?b15
 case a15 => (intro w hSw; (try dsimp only at hSw); go_simp; try with_reducible rfl)
 try simp only [Act.put, List.setIfInBounds_toArray, List.set_cons_zero, List.set_cons_succ]
 refine' wpAnyH_take (i := 5) (oi := ⟨_, _, _, _, _, _⟩) rfl (by kernel_rfl) (by kernel_rfl) (by kernel_rfl) (fun _ _ _ h => h) (Or.inl ⟨by rfl, ?a16⟩) (by assumption) ?b16
 case a16 => (intro w hSw; (try dsimp only at hSw); go_simp; try with_reducible rfl)
 try simp only [Act.put, List.setIfInBounds_toArray, List.set_cons_zero, List.set_cons_succ]
 refine' wpAnyH_take (i := 6) (oi := ⟨_, _, _, _, _, _⟩) rfl (by kernel_rfl) (by kernel_rfl) (by kernel_rfl) (fun _ _ _ h => h) (Or.inl ⟨by rfl, ?a17⟩) (by assumption) ?b17
 case a17 => (intro w hSw; (try dsimp only at hSw); go_simp; try with_reducible rfl)
 try simp only [Act.put, List.setIfInBounds_toArray, List.set_cons_zero, List.set_cons_succ]
 refine' wpAnyH_take (i := 7) (oi := ⟨_, _, _, _, _, _⟩) rfl (by kernel_rfl) (by kernel_rfl) (by kernel_rfl) (fun _ _ _ h => h) (Or.inl ⟨by rfl, ?a18⟩) (by assumption) ?b18
 case a18 => (intro w hSw; (try dsimp only at hSw); go_simp; try with_reducible rfl)
 try simp only [Act.put, List.setIfInBounds_toArray, List.set_cons_zero, List.set_cons_succ]
 refine' wpAnyH_take (i := 8) (oi := ⟨_, _, _, _, _, _⟩) rfl (by kernel_rfl) (by kernel_rfl) (by kernel_rfl) (fun _ _ _ h => h) (Or.inl ⟨by rfl, ?a19⟩) (by assumption) ?b19
 case a19 => (intro w hSw; (try dsimp only at hSw); go_simp; try with_reducible rfl)
 try simp only [Act.put, List.setIfInBounds_toArray, List.set_cons_zero, List.set_cons_succ]
 refine' wpAnyH_take (i := 9) (oi := ⟨_, _, _, _, _, _⟩) rfl (by kernel_rfl) (by kernel_rfl) (by kernel_rfl) (fun _ _ _ h => h) (Or.inl ⟨by rfl, ?a20⟩) (by assumption) ?b20
 case a20 => (intro w hSw; (try dsimp only at hSw); go_simp; try with_reducible rfl)
 try simp only [Act.put, List.setIfInBounds_toArray, List.set_cons_zero, List.set_cons_succ]
 refine wpAnyH_done (by kernel_rfl) ?_ _
 change wpList _ _ _ _ _ _
 clear qL kL0 kL1 hHeld
 go_wp2_with fail
 have hplen := putS_len (lenA ts) (lenD ts) (by rw [lenA_length]; decide) (by rw [lenA_length]; decide) (by rw [lenD_length]; decide) (by rw [lenD_length]; decide) (lenA_rng ts) (lenD_rng ts)
 refine (CPut_calls wh wh [1, 0, 1] v2 (some ⟨g3, 0, none⟩) (some ⟨g4, 0, none⟩) 286 c3 30 c4 (lenA ts) (lenD ts) _ (HW2.out.below L0.bel) (H6A.out.below L0.bel) (H6D.out.below L0.bel) (by decide) (by decide) (by decide) (by decide) hc3 hc4 (fun j _ => lenA_rng ts j) (fun j _ => lenD_rng ts j) (fun j hj => kept_cell L0.bel (kept_cell HbW6.out (HO.out j hj))) (by have := Hto.out; have := Hkl.out; omega) (Nat.le_refl _) (by have := L0.bel.size; omega) (by decide)).mono ?_
 rintro e w7 ⟨v7, rfl, hw7, hs7⟩
 have HW7 := Lib.hid hw7
 have HT7 := Lib.hid (HT2.out.trans (WStep.after L0.bel hs7))
 have q7 := cell_of_row w7 (wh + 1) 0 _ _ (0, 0) (HT7.out.blk HWr0.out Hr1.out (by decide) (by omega))
 simp only [List.getElem?_toArray, List.getElem?_cons_zero] at q7
 have Hb7 := Lib.hid (Hb0.out.trans (wst_below HT7.out (Nat.le_refl _) (by omega)))
 have HbW7 := Lib.hid (Hb5.out.trans (Hb7.out.mono Hkl.out.2.2.2.2.2.2))
 have hsz7 := HT7.out.fr.size
 have hbk : Book w7 wh v7 kb (some ⟨g3, 0, none⟩) (some ⟨g4, 0, none⟩) (some ⟨gx, 0, none⟩) (some ⟨gy, 0, none⟩) 286 30 c3 c4 c5 c6 (lenA ts) (lenD ts) :=
  ⟨(Hb7.out.block kb Hkl.out.1).trans Hkb.out, Hr5A.out.belowB Hb7.out (fun _ b o e => by cases e; exact Hkl.out.2.2.2.1), Hr5D.out.belowB Hb7.out (fun _ b o e => by cases e; exact Hkl.out.2.2.2.2.1), HX.out.belowB Hb7.out (fun _ b o e => by cases e; exact Hkl.out.2.1), HY.out.belowB Hb7.out (fun _ b o e => by cases e; exact Hkl.out.2.2.1),
   fun b o e => by cases e; exact off_old HW7.out (Nat.le_refl _) Hkl.out.2.2.2.1, fun b o e => by cases e; exact off_old HW7.out (Nat.le_refl _) Hkl.out.2.2.2.2.1, fun b o e => by cases e; exact off_old HW7.out (Nat.le_refl _) Hkl.out.2.1, fun b o e => by cases e; exact off_old HW7.out (Nat.le_refl _) Hkl.out.2.2.1, off_old HW7.out (Nat.le_refl _) Hkl.out.1⟩
 have Hbk := Lib.hid hbk
 have Hpn := Lib.hid hplen
 have htk7 : Toks w7 At nt ts := by
  obtain ⟨h1, h2⟩ := Htk5.out
  refine ⟨h1, fun hn => ?_⟩
  obtain ⟨b, o, e, hc⟩ := h2 hn
  have hlt : b < wh := Nat.lt_of_lt_of_le (Hnt.out b o e) Hkl.out.2.2.2.2.2.1
  exact ⟨b, o, e, fun j hj => ⟨(Hb7.out.cell (p := ⟨b, o + j * 3, none⟩) hlt).trans (hc j hj).1, (Hb7.out.cell (p := ⟨b, o + j * 3 + 1, none⟩) hlt).trans (hc j hj).2.1, (Hb7.out.cell (p := ⟨b, o + j * 3 + 2, none⟩) hlt).trans (hc j hj).2.2⟩⟩
 have Htk7 := Lib.hid htk7
 clear hw7 hs7 L0 hbk hplen htk7
 go_wp2_with fail
 refine (tokens_calls wh wh kb 286 30 c3 c4 c5 c6 nt ct ([1, 0, 1] ++ putS (lenA ts) (lenD ts)) v7 _ _ _ _ At (lenA ts) (lenD ts) ts _ HW7.out Hbk.out Htk7.out (fun b o e => off_old HW7.out (Nat.le_refl _) (Nat.lt_of_lt_of_le (Hnt.out b o e) Hkl.out.2.2.2.2.2.1)) Hok.out (HT.out.below HbW7.out) (by have := Hto.out; have := Hkl.out; omega) (Nat.le_refl _) (by decide) (by decide) (by decide) (by decide) (lenA_rng ts) (lenD_rng ts) (by omega) (by rw [List.length_append]; have := Hpn.out; show 3 + _ ≤ _; omega) (by omega)).mono ?_
 rintro e w8 ⟨v8, rfl, hw8, hs8⟩
 have e8 : [1, 0, 1] ++ putS (lenA ts) (lenD ts) ++ toksS (lenA ts) (lenD ts) ts = dynS bs := by unfold dynS; rw [← Hts.out, List.append_assoc]
 rw [e8] at hw8
 have HW5 := Lib.hid hw8
 have HT8 := Lib.hid (HT7.out.trans hs8)
 have q8 := cell_of_row w8 (wh + 1) 0 _ _ (0, 0) (HT8.out.blk HWr0.out Hr1.out (by decide) (by omega))
 simp only [List.getElem?_toArray, List.getElem?_cons_zero] at q8
 have qL := Later.cell q8
 have L0 : Later w8 w8.drew := (Later.refl w8).drew
 have hlen5 : (dynS bs).length ≤ 8000000 := by
  rw [← e8, List.length_append, List.length_append]
  have h1 := toksTo_len (lenA_rng ts) (lenD_rng ts) Hok.out ts.length (Nat.le_refl _)
  rw [toksTo_all] at h1
  have h2 := symCode_len (lenA_rng ts) 256
  have h3 := Hpn.out
  have h4 := Hnl.out
  unfold toksS
  rw [List.length_append]
  show 3 + _ + (_ + _) ≤ _
  omega
 have HL5 := Lib.hid hlen5
 have hsz8 := HT8.out.fr.size
 have Hb8 := Lib.hid (Hb5.out.trans ((Hb0.out.trans (wst_below HT8.out (Nat.le_refl _) (by omega))).mono Hkl.out.2.2.2.2.2.2))
 clear hw8 hs8 q8 e8 hlen5 HX HY hnew
 go_upto_region 9 with fail
 refine wp_region_noPanic ?_
 refine wp_region_held_drew (S := fun W => Later w8 W) (by kernel_rfl) (L0) (fun hHeld => ?_)
 refine' wpAnyH_take (i := 0) (oi := ⟨_, _, _, _, _, _⟩) rfl (by kernel_rfl) (by kernel_rfl) (by kernel_rfl) (fun _ _ _ h => h) (Or.inl ⟨by rfl, ?a21⟩) (by assumption) ?b21
 case a21 => (intro w hSw; (try dsimp only at hSw); go_simp; try with_reducible rfl)
 try simp only [Act.put, List.setIfInBounds_toArray, List.set_cons_zero, List.set_cons_succ]
 refine' wpAnyH_take (i := 1) (oi := ⟨_, _, _, _, _, _⟩) rfl (by kernel_rfl) (by kernel_rfl) (by kernel_rfl) (fun _ _ _ h => h) (Or.inl ⟨by rfl, ?a22⟩) (by assumption) ?b22
 case a22 => (intro w hSw; (try dsimp only at hSw); go_simp; try with_reducible rfl)
 try simp only [Act.put, List.setIfInBounds_toArray, List.set_cons_zero, List.set_cons_succ]
 refine' wpAnyH_take (i := 3) (oi := ⟨_, _, _, _, _, _⟩) rfl (by kernel_rfl) (by kernel_rfl) (by kernel_rfl) (fun _ _ _ h => h) (Or.inl ⟨by rfl, ?a23⟩) (by assumption) ?b23
 case a23 => (intro w hSw; (try dsimp only at hSw); go_simp; try with_reducible rfl)
 try simp only [Act.put, List.setIfInBounds_toArray, List.set_cons_zero, List.set_cons_succ]
 refine' wpAnyH_take (i := 4) (oi := ⟨_, _, _, _, _, _⟩) rfl (by kernel_rfl) (by kernel_rfl) (by kernel_rfl) (fun _ _ _ h => h) (Or.inl ⟨by rfl, ?a24⟩) (by assumption) ?b24
 case a24 => (intro w hSw; (try dsimp only at hSw); go_simp; try with_reducible rfl)
 try simp only [Act.put, List.setIfInBounds_toArray, List.set_cons_zero, List.set_cons_succ]
 refine wpAnyH_ready (rs := [2]) (by kernel_rfl) (by simp) ?_
 refine AllReadyH.cons (o := ⟨_, _, _, _, _, _⟩) rfl (fun K hK => ?_) AllReadyH.nil
 go_simp
 go_at_call 50
 refine (WBytes_calls _ wh _ v8 _ (HW5.out.below hHeld.bel) (by have := HL5.out; omega)).mono ?_
 rintro e wA ⟨vA, rfl, hoA, hbA⟩
 have L1 : Later w8 wA := Later.step hHeld hbA
 have HoA := Lib.hid (own_mono hoA (Nat.le_trans Hb8.out.size hHeld.bel.size))
 clear hoA hbA
 refine hK.out _ _ (L1) (fun hHeldN => ?_)
 clear hK K hHeld
 have hHeld := hHeldN
 clear hHeldN
 try simp only [Act.put, List.setIfInBounds_toArray, List.set_cons_zero, List.set_cons_succ]
 refine wpAnyH_ready (rs := [5]) (by kernel_rfl) (by simp) ?_
 refine AllReadyH.cons (o := ⟨_, _, _, _, _, _⟩) rfl (fun K hK => ?_) AllReadyH.nil
 go_simp
 go_at_call 54
 refine (WLen_calls _ wh _ v8 _ (HW5.out.below hHeld.bel) (by have := HL5.out; omega)).mono ?_
 rintro e wB ⟨rfl, hbB⟩
 have L2 : Later w8 wB := Later.step hHeld hbB
 have HoB := Lib.hid (own_below HoA.out hbB)
 clear hbB
 refine hK.out _ _ (L2) (fun hHeldN => ?_)
 clear hK K hHeld
 have hHeld := hHeldN
 clear hHeldN
 try simp only [Act.put, List.setIfInBounds_toArray, List.set_cons_zero, List.set_cons_succ]
 refine' wpAnyH_take (i := 6) (oi := ⟨_, _, _, _, _, _⟩) rfl (by kernel_rfl) (by kernel_rfl) (by kernel_rfl) (fun _ _ _ h => h) (Or.inl ⟨by rfl, ?a25⟩) (by assumption) ?b25
 case a25 => (intro w hSw; (try dsimp only at hSw); go_simp; try with_reducible rfl)
 try simp only [Act.put, List.setIfInBounds_toArray, List.set_cons_zero, List.set_cons_succ]
 refine' wpAnyH_take (i := 7) (oi := ⟨_, _, _, _, _, _⟩) rfl (by kernel_rfl) (by kernel_rfl) (by kernel_rfl) (fun _ _ _ h => h) (Or.inl ⟨by rfl, ?a26⟩) (by assumption) ?b26
 case a26 => (intro w hSw; (try dsimp only at hSw); go_simp; try with_reducible rfl)
 try simp only [Act.put, List.setIfInBounds_toArray, List.set_cons_zero, List.set_cons_succ]
 refine wpAnyH_done (by kernel_rfl) ?_ _
 refine NoPanic.normal ?_
 go_wp2
 go_ret2
 exact ⟨_, rfl, by rw [packB_length]; exact HoB.out, HL5.out, Hb8.out.trans (L2.bel.mono Hb8.out.size)⟩
end Go.Proofs.YtdbkbeojedndbaaGreatDoor
