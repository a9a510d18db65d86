/-
  Texts joined into one file: Ref9, Ref01O, RoP, RefOp, Conv.
-/
import Derived.Test.YtdbkbeojedndbaaGreatDoorJRefCo24
import Derived.Test.YtdbkbeojedndbaaGreatDoorJRefCo1
import Derived.Test.YtdbkbeojedndbaaGreatDoorJRefCo5
import Derived.Test.YtdbkbeojedndbaaGreatDoorJRefCo3
import Derived.Test.YtdbkbeojedndbaaGreatDoorJRefCo6
import Derived.Test.YtdbkbeojedndbaaGreatDoorJRefCo21
import Derived.Test.YtdbkbeojedndbaaGreatDoorJRefCo22
import Derived.Test.YtdbkbeojedndbaaGreatDoorJRefCo20
import Derived.Laws.BytesString
import Derived.Laws.BytesArg
namespace Go.Proofs.YtdbkbeojedndbaaGreatDoor
open Go.RowKit

def fixTo (k : Nat) : List Int := (List.range k).map fixAt
theorem fixTo_succ (k : Nat) : fixTo (k + 1) = fixTo k ++ [fixAt k] := by simp [fixTo, List.range_succ]
theorem fixTo_length (k : Nat) : (fixTo k).length = k := by simp [fixTo]
set_option maxHeartbeats 1000000 in set_option maxRecDepth 100000 in
theorem AgreedX_calls (w : World) :
  Calls Tryz.prog 12 #[] w fun e w' => ∃ A c B d, e = .returned (.tuple #[.slice A 288 c, .slice B 32 d]) ∧ Hid (Rd w' .i64 A 288 fixA) ∧ Hid (Rd w' .i64 B 32 fixB) ∧ (288 ≤ c ∧ 32 ≤ d) ∧ NewB w.heap.size A ∧ NewB w.heap.size B ∧ Below w.heap.size w w' := by
 go_enter Tryz.func12, Tryz.ntmps12
 go_wp2
 go_loopw [2, 4] (fun v i wr => ∃ k : Nat, k ≤ 288 ∧ i = .int .i64 k ∧ Hid (wr.ownsRow w.heap.size 3 1 v k (ints .i64 (fixTo k))) ∧ Hid (Below w.heap.size w wr)) (fun _ i _ => 288 - (intOf i).toNat)
 case atStart => exact ⟨0, by omega, rfl, World.ownsRow_nil _ _ _ _, Below.refl _ _⟩
 case round =>
  obtain ⟨k, hk, rfl, HO, HB⟩ := hrel
  have hszr := HB.out.size
  by_cases hlt : k < 288
  ·have hs := fixTo_succ k
   by_cases h1 : k < 144
   ·have e1 : fixAt k = 8 := by unfold fixAt; rw [if_pos h1]
    rw [e1] at hs
    have Hs := Lib.hid hs
    have t1 : ¬ (144 : Int) ≤ k := by omega
    have t2 : ¬ (256 : Int) ≤ k := by omega
    clear hs e1
    go_wp2_with (at_builtin; refine wpList_app2 rfl _ _ rfl elIntN (HO.out) rfl rfl rfl (by simp) rfl (by omega) (by omega) ?_; intro v' w' hown' hbel' _)
    go_roundw
    case rel => exact ⟨k + 1, by omega, by go_num, by rw [Hs.out, ints_append]; exact hown', HB.out.trans hbel'⟩
    case measure => simp [intOf]; omega
   ·by_cases h2 : k < 256
    ·have e1 : fixAt k = 9 := by unfold fixAt; rw [if_neg h1, if_pos h2]
     rw [e1] at hs
     have Hs := Lib.hid hs
     have t1 : (144 : Int) ≤ k := by omega
     have t3 : (k : Int) ≤ 255 := by omega
     have t2 : ¬ (256 : Int) ≤ k := by omega
     clear hs e1
     go_wp2_with (at_builtin; refine wpList_app2 rfl _ _ rfl elIntN (HO.out) rfl rfl rfl (by simp) rfl (by omega) (by omega) ?_; intro v' w' hown' hbel' _)
     go_roundw
     case rel => exact ⟨k + 1, by omega, by go_num, by rw [Hs.out, ints_append]; exact hown', HB.out.trans hbel'⟩
     case measure => simp [intOf]; omega
    ·by_cases h3 : k < 280
     ·have e1 : fixAt k = 7 := by unfold fixAt; rw [if_neg h1, if_neg h2, if_pos h3]
      rw [e1] at hs
      have Hs := Lib.hid hs
      have t1 : (144 : Int) ≤ k := by omega
      have t3 : ¬ (k : Int) ≤ 255 := by omega
      have t2 : (256 : Int) ≤ k := by omega
      have t4 : (k : Int) ≤ 279 := by omega
      clear hs e1
      go_wp2_with (at_builtin; refine wpList_app2 rfl _ _ rfl elIntN (HO.out) rfl rfl rfl (by simp) rfl (by omega) (by omega) ?_; intro v' w' hown' hbel' _)
      go_roundw
      case rel => exact ⟨k + 1, by omega, by go_num, by rw [Hs.out, ints_append]; exact hown', HB.out.trans hbel'⟩
      case measure => simp [intOf]; omega
     ·have e1 : fixAt k = 8 := by unfold fixAt; rw [if_neg h1, if_neg h2, if_neg h3]
      rw [e1] at hs
      have Hs := Lib.hid hs
      have t1 : (144 : Int) ≤ k := by omega
      have t3 : ¬ (k : Int) ≤ 255 := by omega
      have t2 : (256 : Int) ≤ k := by omega
      have t4 : ¬ (k : Int) ≤ 279 := by omega
      clear hs e1
      go_wp2_with (at_builtin; refine wpList_app2 rfl _ _ rfl elIntN (HO.out) rfl rfl rfl (by simp) rfl (by omega) (by omega) ?_; intro v' w' hown' hbel' _)
      go_roundw
      case rel => exact ⟨k + 1, by omega, by go_num, by rw [Hs.out, ints_append]; exact hown', HB.out.trans hbel'⟩
      case measure => simp [intOf]; omega
  ·obtain rfl : k = 288 := by omega
   obtain ⟨W1, hW1⟩ : ∃ W, W = wr := ⟨_, rfl⟩
   subst hW1
   obtain ⟨A1, c1, rfl, hc1, hr1⟩ := own_rd HO.out
   have Hr1 := Lib.hid hr1
   clear hr1
   go_wp2
   go_loopw [3, 6] (fun v i wr => ∃ k : Nat, k ≤ 32 ∧ i = .int .i64 k ∧ Hid (wr.ownsRow W1.heap.size 3 1 v k (ints .i64 (List.replicate k 5))) ∧ Hid (Below W1.heap.size W1 wr)) (fun _ i _ => 32 - (intOf i).toNat)
   case atStart => exact ⟨0, by omega, rfl, World.ownsRow_nil _ _ _ _, Below.refl _ _⟩
   case round =>
    obtain ⟨k, hk, rfl, HO2, HB2⟩ := hrel
    have hszr2 := HB2.out.size
    by_cases hlt : k < 32
    ·have hs : List.replicate (k + 1) (5 : Int) = List.replicate k 5 ++ [5] := List.replicate_succ'
     have Hs := Lib.hid hs
     clear hs
     go_wp2_with (at_builtin; refine wpList_app2 rfl _ _ rfl elIntN (HO2.out) rfl rfl rfl (by simp) rfl (by omega) (by omega) ?_; intro v' w' hown' hbel' _)
     go_roundw
     case rel => exact ⟨k + 1, by omega, by go_num, by rw [Hs.out, ints_append]; exact hown', HB2.out.trans hbel'⟩
     case measure => simp [intOf]; omega
    ·obtain rfl : k = 32 := by omega
     obtain ⟨A2, c2, rfl, hc2, hr2⟩ := own_rd HO2.out
     have Hr2 := Lib.hid hr2
     clear hr2
     go_wp2
     go_ret2
     exact ⟨A1, c1, A2, c2, rfl, Hr1.out.below HB2.out, Hr2.out, ⟨hc1, hc2⟩, fun b o e => (HO.out.lt b (by rw [e]; rfl)).1, fun b o e => Nat.le_trans HB.out.size (HO2.out.lt b (by rw [e]; rfl)).1, below_seq HB.out (Nat.le_refl _) HB2.out⟩
theorem Agreed_calls (w : World) :
  Calls Tryz.prog 12 #[] w fun e w' => ∃ A c B d, e = .returned (.tuple #[.slice A 288 c, .slice B 32 d]) ∧ Hid (Rd w' .i64 A 288 fixA) ∧ Hid (Rd w' .i64 B 32 fixB) ∧ (288 ≤ c ∧ 32 ≤ d) ∧ Below w.heap.size w w' :=
 (AgreedX_calls w).mono (fun _ _ ⟨A, c, B, d, h1, h2, h3, h4, _, _, h5⟩ => ⟨A, c, B, d, h1, h2, h3, h4, h5⟩)
theorem stoB_last {f : Nat} {b : List Int} (h : b.length ≤ 65535) : stoB (f + 1) b = [1, ((b.length % 256 : Nat) : Int), ((b.length / 256 : Nat) : Int), ((255 - b.length % 256 : Nat) : Int), ((255 - b.length / 256 : Nat) : Int)] ++ b := by rw [stoB, if_pos h]
theorem stoB_more {f : Nat} {b : List Int} (h : ¬ b.length ≤ 65535) : stoB (f + 1) b = [0, 255, 255, 0, 0] ++ b.take 65535 ++ stoB f (b.drop 65535) := by rw [stoB, if_neg h]
set_option maxHeartbeats 2000000 in
set_option maxRecDepth 100000 in
theorem rStored_calls (A : Option Addr) (len cap : Nat) (bs : List Int) (w : World) (hR : Rd w .u8 A len bs) (hA : A = none → len = 0 ∧ cap = 0) (hcap : len ≤ cap) (hlen : len ≤ 1000000) :
  Calls Tryz.prog 44 #[.slice A len cap] w fun e w' => ∃ v, e = .returned v ∧ w'.ownsRow w.heap.size 5 1 v (storedB bs).length (ints .u8 (storedB bs)) ∧ Below w.heap.size w w' := by
 have HR := Lib.hid hR
 have HA := Lib.hid hA
 have Hl := Lib.hid hR.1
 clear hR hA
 go_enter Tryz.func44, Tryz.ntmps44
 go_wp2
 go_loopw [0, 3] (fun b v wr => ∃ (d c' : Nat) (A' : Option Addr) (fu : Nat) (done : List Int), d ≤ len ∧ b = .slice A' (len - d) c' ∧ len - d ≤ c' ∧ len - d < fu ∧ done.length ≤ 2 * d ∧ Hid (A' = none → len - d = 0 ∧ c' = 0) ∧ Hid (Rd w .u8 A' (len - d) (bs.drop d)) ∧ Hid (storedB bs = done ++ stoB fu (bs.drop d)) ∧ Hid (wr.ownsRow w.heap.size 5 1 v done.length (ints .u8 done)) ∧ Hid (Below w.heap.size w wr)) (fun b _ _ => lenS b)
 case atStart => exact ⟨0, cap, A, len + 1, [], by omega, rfl, by omega, by omega, by simp, HA.out, HR.out, by unfold storedB; rw [Hl.out]; rfl, World.ownsRow_nil _ _ _ _, Below.refl _ _⟩
 case round =>
  obtain ⟨d, c', A', fu, done, hd, rfl, hc', hfu, hdl, HA', HR', HS, HO, HB⟩ := hrel
  obtain ⟨r, hr⟩ : ∃ r, r = len - d := ⟨_, rfl⟩
  rw [← hr] at hc' hfu HA' HR' ⊢
  have hrl : r + d = len := by omega
  have Hr := Lib.hid hr
  obtain ⟨f, rfl⟩ : ∃ f, fu = f + 1 := ⟨fu - 1, by omega⟩
  have hszr := HB.out.size
  have HR2 := Lib.hid (HR'.out.below HB.out)
  have hS := HS.out
  clear hr
  by_cases hlast : r ≤ 65535
  ·rw [stoB_last (f := f) (b := bs.drop d) (by rw [List.length_drop, Hl.out]; omega), show (bs.drop d).length = r from by rw [List.length_drop, Hl.out]; omega] at hS
   have HS2 := Lib.hid hS
   have e7 := Lib.hid (show [1, (r : Int) % 256, (r : Int) / 256, 255 - (r : Int) % 256, 255 - (r : Int) / 256] = [1, ((r % 256 : Nat) : Int), ((r / 256 : Nat) : Int), ((255 - r % 256 : Nat) : Int), ((255 - r / 256 : Nat) : Int)] by
    rw [show ((r % 256 : Nat) : Int) = (r : Int) % 256 from by omega, show ((r / 256 : Nat) : Int) = (r : Int) / 256 from by omega, show ((255 - r % 256 : Nat) : Int) = 255 - (r : Int) % 256 from by omega, show ((255 - r / 256 : Nat) : Int) = 255 - (r : Int) / 256 from by omega])
   clear hS
   go_wp2_with (first
    | (at_builtin; refine wpList_appRd rfl _ _ rfl elB (HO.out.alloc _) rfl rfl (zs := [1, (r : Int) % 256, (r : Int) / 256, 255 - (r : Int) % 256, 255 - (r : Int) / 256]) (Blk.rd (heap_alloc_new wr _) rfl) (fun e => by cases e) (by omega) (by simp; omega) ?_; intro v1 w1 hown1 hg1; have HO1 := Lib.hid hown1; have hb1 : Below w.heap.size wr w1 := ((Below.refl _ _).alloc hszr _).grown hg1 (by simp; omega) (fun k hk => (HO.out.lt k hk).1); have HB1 := Lib.hid (HB.out.trans hb1); have HRt1 := Lib.hid (HR'.out.below HB1.out); have hsz1 := hb1.size; clear hown1 hg1 hb1)
    | (at_builtin; refine wpList_appRd rfl _ _ rfl elB HO1.out rfl rfl HRt1.out HA'.out (by omega) (by omega) ?_; intro v2 w2 hown2 hg2; have HO2 := Lib.hid hown2; have HB2 := Lib.hid (HB1.out.grown hg2 HB1.out.size (fun k hk => (HO1.out.lt k hk).1)); clear hown2 hg2))
   go_ret
   have hS3 : storedB bs = done ++ [1, (r : Int) % 256, (r : Int) / 256, 255 - (r : Int) % 256, 255 - (r : Int) / 256] ++ bs.drop d := by rw [HS2.out, e7.out, List.append_assoc]
   have hl3 : (storedB bs).length = done.length + 5 + r := by rw [hS3, List.length_append, List.length_append, List.length_drop, Hl.out]; show done.length + 5 + _ = _; omega
   exact ⟨_, rfl, by rw [hl3, hS3]; exact HO2.out, HB2.out⟩
  ·rw [stoB_more (f := f) (b := bs.drop d) (by rw [List.length_drop, Hl.out]; omega), List.drop_drop] at hS
   have HS2 := Lib.hid hS
   clear hS
   obtain ⟨ab, ao, rfl, _⟩ := HR'.out.2 (by omega)
   have hc65 : (65535 : Int) ≤ (c' : Int) := by omega
   have hd65 : (65535 : Int) < (c' : Int) := by omega
   have HRd := Lib.hid (rd_drop0 HR'.out 65535 (by omega))
   clear HR2
   go_wp2_with (first
    | (at_builtin; refine wpList_appRd rfl _ _ rfl elB (HO.out.alloc _) rfl rfl (zs := [0, 255, 255, 0, 0]) (Blk.rd (heap_alloc_new wr _) rfl) (fun e => by cases e) (by omega) (by simp; omega) ?_; intro v1 w1 hown1 hg1; have HO1 := Lib.hid hown1; have hb1 : Below w.heap.size wr w1 := ((Below.refl _ _).alloc hszr _).grown hg1 (by simp; omega) (fun k hk => (HO.out.lt k hk).1); have HB1 := Lib.hid (HB.out.trans hb1); have HRt1 := Lib.hid (rd_take0 (HR'.out.below HB1.out) 65535 (by omega)); have hsz1 := hb1.size; clear hown1 hg1 hb1)
    | (at_builtin; refine wpList_appRd rfl _ _ rfl elB HO1.out rfl rfl HRt1.out (fun e => by cases e) (by omega) (by omega) ?_; intro v2 w2 hown2 hg2; have HO2 := Lib.hid hown2; have HB2 := Lib.hid (HB1.out.grown hg2 HB1.out.size (fun k hk => (HO1.out.lt k hk).1)); clear hown2 hg2))
   have hl2 := Lib.hid (show (done ++ [0, 255, 255, 0, 0] ++ (bs.drop d).take 65535).length = done.length + 5 + 65535 by rw [List.length_append, List.length_append, List.length_take, List.length_drop, Hl.out, Nat.min_eq_left (by omega)]; rfl)
   have e6 := Lib.hid (show r - 65535 = len - (d + 65535) by omega)
   go_roundw
   case rel => exact ⟨d + 65535, c' - 65535, some ⟨ab, ao + 65535, none⟩, f, done ++ [0, 255, 255, 0, 0] ++ (bs.drop d).take 65535, by omega, by rw [← e6.out], by omega, by omega, by rw [hl2.out]; omega, (fun e => by cases e), by rw [← e6.out, ← List.drop_drop]; exact HRd.out, Lib.hid (by rw [HS2.out]; simp only [List.append_assoc]), by rw [hl2.out]; exact HO2.out, HB2.out⟩
   case measure => simp [lenS]; omega
end Go.Proofs.YtdbkbeojedndbaaGreatDoor
namespace Go.Proofs.YtdbkbeojedndbaaGreatDoor
open Go.RowKit

set_option maxHeartbeats 1000000 in set_option maxRecDepth 100000 in
theorem Of_calls (A : Option Addr) (len cap : Nat) (bs : List Int) (w : World) (hB : Rd w .u8 A len bs) (hb : ∀ j, j < len → 0 ≤ rd bs j ∧ rd bs j ≤ 255) (hlen : len ≤ 1000000) :
  Calls Tryz.prog 9 #[.slice A len cap] w fun e w' => ∃ v, e = .returned v ∧ w'.ownsRow w.heap.size 5 1 v (8 * len) (ints .u8 (bitsOf bs 0 (8 * len))) ∧ Below w.heap.size w w' := by
 have HB := Lib.hid hB
 have Hb := Lib.hid hb
 clear hB hb
 go_enter Tryz.func9, Tryz.ntmps9
 go_wp2
 go_loopw [3, 4] (fun v i wr => ∃ k : Nat, k ≤ len ∧ i = .int .i64 k ∧ Hid (wr.ownsRow w.heap.size 5 1 v (8 * k) (ints .u8 (bitsOf bs 0 (8 * k)))) ∧ Hid (Below w.heap.size w wr)) (fun _ i _ => len - (intOf i).toNat)
 case atStart => exact ⟨0, by omega, rfl, World.ownsRow_nil _ _ _ _, Below.refl _ _⟩
 case round =>
  obtain ⟨k, hk, rfl, Hown, Hbel⟩ := hrel
  have hsz := Hbel.out.size
  by_cases hlt : k < len
  ·obtain ⟨b, o, rfl, hcx⟩ := HB.out.2 (by omega)
   have z := kept_cell Hbel.out (hcx k hlt)
   have hr := Hb.out k hlt
   clear hcx
   obtain ⟨y, hy⟩ : ∃ y : Nat, rd bs k = y := ⟨(rd bs k).toNat, by omega⟩
   have hnx := bitsOf_next bs k
   rw [hy, Int.toNat_natCast] at hnx
   rw [hy] at z hr
   have Hnx := Lib.hid hnx
   clear hnx hy
   obtain ⟨A1, c1, rfl⟩ := own_slice Hown.out
   go_wp2_with fail
   refine (Low_calls y 8 _ (by omega) (by omega)).mono ?_
   rintro e w2 ⟨v2, rfl, ho2, hb2⟩
   obtain ⟨A2, c2, rfl, _, hr2⟩ := own_rd ho2
   have ho3 := own_below Hown.out hb2
   have hnil := own_none ho2
   have hsz2 := hb2.size
   have Hr2 := Lib.hid hr2
   have Hb2 := Lib.hid hb2
   have Ho3 := Lib.hid ho3
   have Hnil := Lib.hid hnil
   clear ho2 hr2 hb2 ho3 hnil
   go_wp2_with (at_builtin; refine wpList_appRd rfl _ _ rfl elB Ho3.out rfl rfl Hr2.out Hnil.out (by omega) (by omega) ?_; intro v' w' hown' hg')
   go_roundw
   case rel =>
    exact ⟨k + 1, by omega, by go_num, by rw [Hnx.out]; exact hown', below_app (below_seq Hbel.out (Nat.le_refl _) Hb2.out) (Nat.le_refl _) Ho3.out (Nat.le_refl _) hg'⟩
   case measure => simp [intOf]; omega
  ·obtain rfl : k = len := by omega
   go_wp2
   go_ret
   exact ⟨_, rfl, Hown.out, Hbel.out⟩
end Go.Proofs.YtdbkbeojedndbaaGreatDoor
namespace Go.Proofs.YtdbkbeojedndbaaGreatDoor
open Go.RowKit

theorem byte_bits (bs : List Int) (k : Nat) (h : 0 ≤ rd bs k ∧ rd bs k ≤ 255) : pk (fun i => bitAt bs (8 * k + i)) 8 = (rd bs k).toNat := by
 have hb : ∀ i, i < 8 → bitAt bs (8 * k + i) = (rd bs k).toNat / 2 ^ i % 2 := fun i hi => by
  unfold bitAt
  rw [show (8 * k + i) / 8 = k by omega, show (8 * k + i) % 8 = i by omega]
 simp only [pk, hb 0 (by omega), hb 1 (by omega), hb 2 (by omega), hb 3 (by omega), hb 4 (by omega), hb 5 (by omega), hb 6 (by omega), hb 7 (by omega)]
 omega
theorem pack_of {bs : List Int} (hb : ∀ j, j < bs.length → 0 ≤ rd bs j ∧ rd bs j ≤ 255) {i n : Nat} (h : i + n ≤ bs.length) : packB (bitsOf bs (8 * i) (8 * n)) = (bs.drop i).take n := by
 have hl : (packB (bitsOf bs (8 * i) (8 * n))).length = n := by rw [packB_length, bitsOf_length]; omega
 apply ext_rd (by rw [hl, List.length_take, List.length_drop]; omega)
 intro j hj
 rw [hl] at hj
 have hx := hb (i + j) (by omega)
 have e : packAt (bitsOf bs (8 * i) (8 * n)) j = (rd bs (i + j)).toNat := by
  unfold packAt
  rw [← byte_bits bs (i + j) hx]
  have hf : ∀ t, t < 8 → (rd (bitsOf bs (8 * i) (8 * n)) (8 * j + t)).toNat = bitAt bs (8 * (i + j) + t) := fun t ht => by
   rw [rd_bitsOf (by omega), Int.toNat_natCast]
   congr 1
   omega
  simp only [pk, hf 0 (by omega), hf 1 (by omega), hf 2 (by omega), hf 3 (by omega), hf 4 (by omega), hf 5 (by omega), hf 6 (by omega), hf 7 (by omega)]
 rw [rd_packB (by rw [bitsOf_length]; omega), e, Int.toNat_of_nonneg hx.1]
 unfold rd
 rw [List.getD_eq_getElem?_getD, List.getD_eq_getElem?_getD, List.getElem?_take_of_lt hj, List.getElem?_drop]
theorem bitsOf_01 (bs : List Int) (p m : Nat) : Bit01 (bitsOf bs p m) := by
 intro x hx
 obtain ⟨j, hj, rfl⟩ := List.getElem_of_mem hx
 rw [bitsOf_length] at hj
 have h1 := rd_bitsOf (bs := bs) (p := p) hj
 have h2 := bitAt_le bs (p + j)
 rw [rd_getElem (by rw [bitsOf_length]; exact hj)] at h1
 rw [h1]
 omega
theorem xor_ff {n : Nat} (h : n < 65536) : n ^^^ 65535 = 65535 - n := by
 have h1 : (BitVec.ofNat 16 n ^^^ BitVec.allOnes 16).toNat = (~~~ (BitVec.ofNat 16 n)).toNat := by rw [BitVec.xor_allOnes]
 rw [BitVec.toNat_xor, BitVec.toNat_not, BitVec.toNat_ofNat, BitVec.toNat_allOnes, Nat.mod_eq_of_lt (show n < 2 ^ 16 by omega)] at h1
 exact h1
theorem xor_sum {n m : Nat} (hn : n < 65536) : n ^^^ m = 65535 ↔ (n + m = 65535 ∧ m < 65536) := by
 constructor
 ·intro h
  have e : m = n ^^^ 65535 := by rw [← h, ← Nat.xor_assoc, Nat.xor_self, Nat.zero_xor]
  rw [xor_ff hn] at e
  omega
 ·intro h
  have e : m = n ^^^ 65535 := by rw [xor_ff hn]; omega
  rw [e, ← Nat.xor_assoc, Nat.xor_self, Nat.zero_xor]
end Go.Proofs.YtdbkbeojedndbaaGreatDoor
namespace Go.Proofs.YtdbkbeojedndbaaGreatDoor
open Go.RowKit

def RoEnd (w : World) (R : Res) (e : Ending) (w' : World) : Prop :=
  ((∃ c, c ≠ 0 ∧ R = .error c ∧ e = .returned (.tuple #[.slice none 0 0, .int .i64 0, .int .i64 c])) ∨
   ∃ (q : Nat) (o : List Int) (v' : Value), R = .ok (q, o) ∧ e = .returned (.tuple #[v', .int .i64 ((q + 7) / 8 : Nat), .int .i64 0]) ∧ w'.ownsRow w.heap.size 5 1 v' o.length (ints .u8 o)) ∧ Below w.heap.size w w'
theorem open_total {bs : List Int} {T : Nat} {most : Int} (p : Nat × List Int) : ∃ r, iter (openStep bs T most) (T + 1) p = some r := by
  refine iter_total (fun s => T - s.1) (fun s s' h => ?_) _ _ (by omega)
  obtain ⟨q, o⟩ := s
  obtain ⟨q2, o2⟩ := s'
  show T - q2 < T - q
  unfold openStep at h
  split at h
  · cases h
  · split at h
    · cases h
    · rename_i r hb
      split at h
      · cases h
        have := (block_len hb).1
        omega
      · cases h
theorem two_bits (bs : List Int) (q : Nat) : numAt bs q 2 = bitAt bs q + 2 * bitAt bs (q + 1) := by
  simp only [numAt, Nat.add_zero]
  omega
set_option maxHeartbeats 4000000 in
set_option maxRecDepth 100000 in
theorem rOpen_calls (A : Option Addr) (len cap : Nat) (bs : List Int) (most : Int) (w : World) (hR : Rd w .u8 A len bs) (hb : ∀ j, j < len → 0 ≤ rd bs j ∧ rd bs j ≤ 255) (hlen : len ≤ 900000) (hmost : 0 ≤ most ∧ most ≤ 100000000) :
    Calls Tryz.prog 5 #[.slice A len cap, .int .i64 most] w (RoEnd w (openS bs most)) := by
  have HR := Lib.hid hR
  have Hb := Lib.hid hb
  have Hl := Lib.hid hR.1
  have Hmost := Lib.hid hmost
  clear hR hb
  go_enter Tryz.func5, Tryz.ntmps5
  go_wp2_with fail
  refine (Of_calls A len cap bs _ HR.out Hb.out (by omega)).mono ?_
  rintro e w1 ⟨v1, rfl, ho1, hb1⟩
  obtain ⟨T, hT⟩ : ∃ T, T = 8 * len := ⟨_, rfl⟩
  rw [← hT] at ho1
  obtain ⟨A1, c1, rfl, hc1, hr1⟩ := own_rd ho1
  have hA1B : ∀ b o, A1 = some ⟨b, o, none⟩ → b < w1.heap.size := fun b o e => (ho1.lt b (by rw [e]; rfl)).2
  have hcap1 : c1 ≤ 9223372036854775807 := own_cap ho1 _ _ _ rfl
  obtain ⟨R, hR⟩ := open_total (bs := bs) (T := T) (most := most) (0, [])
  have hop : openS bs most = R := by
    unfold openS
    rw [Hl.out, ← hT, hR]
    rfl
  have HOP := Lib.hid hop
  have HI0 := Lib.hid hR
  have HB1 := Lib.hid hb1
  have Hr1 := Lib.hid hr1
  have HAB := Lib.hid hA1B
  have HT := Lib.hid hT
  have hT9 : T ≤ 7200000 := by omega
  have hT8 : T % 8 = 0 := by omega
  clear ho1 hb1 hr1 hA1B hR hop hT
  go_wp2_with fail
  go_loopg [7, 9] (T + 1) (fun g vb vo wr => ∃ (q : Nat) (o2 : List Int) (v2 : Value) (A2 : Option Addr) (c3 : Nat), vb = .slice A2 (T - q) c3 ∧ vo = v2 ∧ q ≤ T ∧ T - q ≤ c3 ∧ c3 ≤ 9223372036854775807 ∧ o2.length ≤ 100000000 ∧ Hid (SameB A1 A2) ∧ Hid (iter (openStep bs T most) g (q, o2) = some R) ∧ Hid (wr.ownsRow w1.heap.size 5 1 v2 o2.length (ints .u8 o2)) ∧ Hid (Rd wr .u8 A2 (T - q) (bitsOf bs q (T - q))) ∧ Hid (Below w1.heap.size w1 wr))
  case atStart => exact ⟨0, [], _, A1, c1, rfl, rfl, by omega, hc1, hcap1, by simp, Lib.hid (fun b o e => ⟨o, e⟩), HI0, Lib.hid (World.ownsRow_nil _ _ _ _), Hr1, Lib.hid (Below.refl _ _)⟩
  case round =>
    obtain ⟨q, o2, v2, A2, c3, rfl, rfl, hqT, hc3, hc3b, ho2, HS2, HI, HOw, HA2, HB2⟩ := hrel
    obtain ⟨W, hW⟩ : ∃ X, X = wr := ⟨_, rfl⟩
    subst hW
    obtain ⟨f, hf⟩ : ∃ f, gk = f + 1 := ⟨gk - 1, by
      rcases gk with _ | f
      · have := HI.out; cases this
      · omega⟩
    subst hf
    obtain ⟨Av, cv, hv⟩ := own_slice HOw.out
    subst hv
    by_cases h3 : T < q + 3
    · have hRe : R = .error 2 := by
        have h1 := HI.out
        rw [iter_inr (step_short h3) f] at h1
        cases h1
        rfl
      go_wp2_with fail
      refine bodyPost_ret (v := .tuple #[.slice none 0 0, .int .i64 0, .int .i64 2]) (by simp [results, Tryz.results5, go_sem]) rfl ⟨.inl ⟨2, by decide, HOP.out.trans hRe, rfl⟩, below_seq HB1.out (Nat.le_refl _) HB2.out⟩
    · obtain ⟨b2, p2, rfl, hx2⟩ := HA2.out.2 (by omega)
      have z0 := hx2 0 (by omega)
      have z1 := hx2 1 (by omega)
      have z2 := hx2 2 (by omega)
      rw [rd_bitsOf (by omega)] at z0 z1 z2
      simp only [Nat.add_zero] at z0
      have hl0 := bitAt_le bs q
      have hl1 := bitAt_le bs (q + 1)
      have hl2 := bitAt_le bs (q + 2)
      have hkind := two_bits bs (q + 1)
      rw [show q + 1 + 1 = q + 2 from rfl] at hkind
      have hlast := numAt_one bs q
      obtain ⟨x0, hx0⟩ : ∃ x, x = bitAt bs q := ⟨_, rfl⟩
      obtain ⟨x1, hx1⟩ : ∃ x, x = bitAt bs (q + 1) := ⟨_, rfl⟩
      obtain ⟨xx2, hxx2⟩ : ∃ x, x = bitAt bs (q + 2) := ⟨_, rfl⟩
      rw [← hx0] at z0 hl0 hlast
      rw [← hx1] at z1 hl1 hkind
      rw [← hxx2] at z2 hl2 hkind
      have Hkind := Lib.hid hkind
      have Hlast := Lib.hid hlast
      clear hx2 hx0 hx1 hxx2 hkind hlast
      go_wp2_with fail
      go_region
      --K
      obtain ⟨w2, hw2⟩ : ∃ X, X = W.drew := ⟨_, rfl⟩
      have HOw2 : Hid (w2.ownsRow w1.heap.size 5 1 (.slice Av o2.length cv) o2.length (ints .u8 o2)) := by rw [hw2]; exact Lib.hid HOw.out.drew
      have HA3 : Hid (Rd w2 .u8 (some ⟨b2, p2, none⟩) (T - q) (bitsOf bs q (T - q))) := by rw [hw2]; exact Lib.hid HA2.out.drew
      have HB3 : Hid (Below w1.heap.size w1 w2) := by rw [hw2]; exact Lib.hid HB2.out.drew
      change Exit.then _ _ Exit.normal _ W.drew
      rw [← hw2]
      clear hw2 z0 z1 z2
      obtain ⟨K, hK⟩ : ∃ K, K = x1 + 2 * xx2 := ⟨_, rfl⟩
      rw [show ((x1 : Int) + 2 * (xx2 : Int)) = (K : Int) by omega]
      have HK := Lib.hid hK
      have hK3 : K ≤ 3 := by omega
      clear hK
      go_upto_region 8 with fail
      go_cut [7] from 41 to 42 (fun t wx => ∃ A' c', t = .slice A' (T - (q + 3)) c' ∧ T - (q + 3) ≤ c' ∧ c' ≤ 9223372036854775807 ∧ Hid (Rd w2 .u8 A' (T - (q + 3)) (bitsOf bs (q + 3) (T - (q + 3)))) ∧ Hid (SameB A1 A') ∧ w2 = wx)
      case first =>
        rcases Nat.lt_or_ge 3 c3 with hcap | hcap
        · go_wp2
          go_meet
          exact ⟨_, _, by rw [Nat.sub_sub], by omega, by omega, Lib.hid (bits_part HA3.out 3 (T - (q + 3)) (by omega)), Lib.hid (HS2.out.move _), rfl⟩
        · obtain rfl : c3 = 3 := by omega
          have e0 : T - (q + 3) = 0 := by omega
          go_wp2
          go_meet
          exact ⟨_, _, by rw [e0], by omega, by omega, Lib.hid (by rw [e0]; exact bits_none _), Lib.hid (by first | exact SameB.none _ | exact HS2.out.move _), rfl⟩
      case rest =>
      obtain ⟨A5, c5, rfl, hc5, hc5b, HA5, HS5, rfl⟩ := hcut
      by_cases hk3 : K = 3
      · have k3 : ((K : Int) == 3) = true := by simp; omega
        have hRe : R = .error 3 := by
          have h1 := HI.out
          rw [iter_inr (step_err (by omega) (by rw [Hkind.out, ← HK.out, hk3]; rfl)) f] at h1
          cases h1
          rfl
        go_wp2_with fail
        refine bodyPost_ret (v := .tuple #[.slice none 0 0, .int .i64 0, .int .i64 3]) (by simp [results, Tryz.results5, go_sem]) rfl ⟨.inl ⟨3, by decide, HOP.out.trans hRe, rfl⟩, below_seq HB1.out (Nat.le_refl _) HB3.out⟩
      · have k3 : ((K : Int) == 3) = false := by simp; omega
        by_cases hk0 : K = 0
        · have k0 : ((K : Int) == 0) = true := by simp; omega
          have HST : Hid (blockS bs T most K (q + 3) o2 = storedS bs T most (q + 3) o2) := Lib.hid (by rw [hk0]; rfl)
          obtain ⟨u, hu⟩ : ∃ u, u = upTo8 (q + 3) := ⟨_, rfl⟩
          have hu1 := upTo8_ge (q + 3)
          rw [← hu] at hu1
          have huT : u ≤ T := by omega
          have Hu := Lib.hid hu
          have HK0 := Lib.hid hk0
          clear hu hk0
          go_wp2_with fail
          go_loopg [7] (u - (q + 3)) (fun g vb wr => ∃ (p : Nat) (A6 : Option Addr) (c6 : Nat), p + g = u ∧ q + 3 ≤ p ∧ vb = .slice A6 (T - p) c6 ∧ T - p ≤ c6 ∧ c6 ≤ 9223372036854775807 ∧ Hid (Rd w2 .u8 A6 (T - p) (bitsOf bs p (T - p))) ∧ Hid (SameB A1 A6) ∧ Hid (wr = w2))
          case atStart => exact ⟨q + 3, A5, c5, by omega, by omega, rfl, hc5, hc5b, HA5, HS5, Lib.hid rfl⟩
          case round =>
            obtain ⟨p, A6, c6, hpg, hp3, rfl, hc6, hc6b, HA6, HS6, HW⟩ := hrel
            have hWW := HW.out
            subst hWW
            obtain ⟨w2, hw2⟩ : ∃ X, X = wr := ⟨_, rfl⟩
            subst hw2
            by_cases hlt : p < u
            · have hmod : (((T - p : Nat) : Int) % 8 != 0) = true := by simp; omega
              obtain ⟨b6, p6, rfl, _⟩ := HA6.out.2 (by omega)
              rcases Nat.lt_or_ge 1 c6 with hcap | hcap
              · go_wp2_with fail
                go_roundg (gk - 1)
                case measure => omega
                case rel => exact ⟨p + 1, _, _, by omega, by omega, by rw [Nat.sub_sub], by omega, by omega, Lib.hid (bits_part HA6.out 1 (T - (p + 1)) (by omega)), Lib.hid (HS6.out.move _), Lib.hid (by trivial)⟩
              · obtain rfl : c6 = 1 := by omega
                have e0 : T - (p + 1) = 0 := by omega
                go_wp2_with fail
                go_roundg (gk - 1)
                case measure => omega
                case rel => exact ⟨p + 1, _, _, by omega, by omega, by rw [e0], by omega, by omega, Lib.hid (by rw [e0]; exact bits_none _), Lib.hid (by first | exact SameB.none _ | exact HS6.out.move _), Lib.hid (by trivial)⟩
            · obtain rfl : p = u := by omega
              have hmod : (((T - p : Nat) : Int) % 8 != 0) = false := by simp; omega
              by_cases h32 : T < p + 32
              · have hsd : storedS bs T most (q + 3) o2 = .error 2 := by unfold storedS; rw [← Hu.out, if_pos h32]
                have hRe : R = .error 2 := by
                  have h1 := HI.out
                  rw [iter_inr (step_err (by omega) (by rw [Hkind.out, ← HK.out, HST.out, hsd])) f] at h1
                  cases h1
                  rfl
                go_wp2_with fail
                refine bodyPost_ret (v := .tuple #[.slice none 0 0, .int .i64 0, .int .i64 2]) (by simp [results, Tryz.results5, go_sem]) rfl ⟨.inl ⟨2, by decide, HOP.out.trans hRe, rfl⟩, below_seq HB1.out (Nat.le_refl _) HB3.out⟩
              · obtain ⟨b6, p6, rfl, _⟩ := HA6.out.2 (by omega)
                have hc32 : 32 ≤ c6 := by omega
                have hc16 : (16 : Int) ≤ (c6 : Int) := by omega
                have hc32i : (32 : Int) ≤ (c6 : Int) := by omega
                have hc16n : ¬ c6 = 16 := by omega
                go_wp2_with fail
                refine wp_region_still_lit (by kernel_rfl) (by kernel_rfl) ?_
                repeat still_step
                obtain ⟨n, hn⟩ : ∃ n, numAt bs p 16 = n := ⟨_, rfl⟩
                obtain ⟨m, hm⟩ : ∃ m, numAt bs (p + 16) 16 = m := ⟨_, rfl⟩
                have hn16 := numAt_lt bs p 16
                have hm16 := numAt_lt bs (p + 16) 16
                have hn1 := Num_calls (some ⟨b6, p6, none⟩) 16 c6 p bs w2.drew (bits_front HA6.out (by omega)).drew (by omega)
                have hn2 := Num_calls (some ⟨b6, p6 + 16, none⟩) 16 (c6 - 16) (p + 16) bs w2.drew (bits_part HA6.out 16 16 (by omega)).drew (by omega)
                rw [hn] at hn1 hn16
                rw [hm] at hn2 hm16
                have Hn := Lib.hid hn
                have Hm := Lib.hid hm
                clear hn hm
                still_call (hn1.mono (fun e w' h => ⟨h.1, h.2.symm⟩))
                repeat still_step
                still_call (hn2.mono (fun e w' h => ⟨h.1, h.2.symm⟩))
                repeat still_step
                refine wpStill_nil ?_
                clear hn1 hn2
                rw [show IntKind.i64.wrap ((n : Nat) : Int) = (n : Int) from by rw [IntWalk.i64_in _ (by omega)], show IntKind.i64.wrap ((m : Nat) : Int) = (m : Int) from by rw [IntWalk.i64_in _ (by omega)]]
                obtain ⟨w4, hw4⟩ : ∃ X, X = w2.drew := ⟨_, rfl⟩
                have HOw4 : Hid (w4.ownsRow w1.heap.size 5 1 (.slice Av o2.length cv) o2.length (ints .u8 o2)) := by rw [hw4]; exact Lib.hid HOw2.out.drew
                have HA7 : Hid (Rd w4 .u8 (some ⟨b6, p6, none⟩) (T - p) (bitsOf bs p (T - p))) := by rw [hw4]; exact Lib.hid HA6.out.drew
                have HB4 : Hid (Below w1.heap.size w1 w4) := by rw [hw4]; exact Lib.hid HB3.out.drew
                change Exit.then _ _ Exit.normal _ w2.drew
                rw [← hw4]
                clear hw4
                go_upto_region 17 with fail
                go_cut [7] from 64 to 65 (fun t wx => ∃ p7 c', t = .slice (some ⟨b6, p7, none⟩) (T - (p + 32)) c' ∧ T - (p + 32) ≤ c' ∧ c' ≤ 9223372036854775807 ∧ Hid (Rd w4 .u8 (some ⟨b6, p7, none⟩) (T - (p + 32)) (bitsOf bs (p + 32) (T - (p + 32)))) ∧ w4 = wx)
                case first =>
                  rcases Nat.lt_or_ge 32 c6 with hcap | hcap
                  · go_wp2
                    go_meet
                    exact ⟨_, _, by rw [Nat.sub_sub], by omega, by omega, Lib.hid (bits_part HA7.out 32 (T - (p + 32)) (by omega)), rfl⟩
                  · obtain rfl : c6 = 32 := by omega
                    have e0 : T - (p + 32) = 0 := by omega
                    go_wp2
                    go_meet
                    exact ⟨_, _, by rw [e0], by omega, by omega, Lib.hid (by rw [e0]; exact bits_none _), rfl⟩
                case rest =>
                obtain ⟨p7, c7, rfl, hc7, hc7b, HA8, rfl⟩ := hcut
                have hxs := xor_sum (n := n) (m := m) hn16
                have hstd : storedS bs T most (q + 3) o2 = if n ^^^ m ≠ 65535 then .error 3 else if most < o2.length + n then .error 4 else if T < p + 32 + 8 * n then .error 2 else .ok (p + 32 + 8 * n, o2 ++ (bs.drop ((p + 32) / 8)).take n) := by
                  unfold storedS
                  rw [← Hu.out, if_neg h32, Hn.out, Hm.out]
                have Hxs := Lib.hid hxs
                have Hstd := Lib.hid hstd
                clear hxs hstd hc16 hc32i hc16n hmod
                by_cases hsum : n + m = 65535
                · have hx : ¬ (n ^^^ m ≠ 65535) := fun h => h (Hxs.out.2 ⟨hsum, hm16⟩)
                  have Hx := Lib.hid hx
                  have hsi : IntKind.i64.wrap ((n : Int) + (m : Int)) = 65535 := by rw [IntWalk.i64_in _ (by omega)]; omega
                  clear hx
                  by_cases hfull : most < (o2.length : Int) + n
                  · have hsd : storedS bs T most (q + 3) o2 = .error 4 := by rw [Hstd.out, if_neg Hx.out, if_pos hfull]
                    have hRe : R = .error 4 := by
                      have h1 := HI.out
                      rw [iter_inr (step_err (by omega) (by rw [Hkind.out, ← HK.out, HST.out, hsd])) f] at h1
                      cases h1
                      rfl
                    go_wp2_with fail
                    refine bodyPost_ret (v := .tuple #[.slice none 0 0, .int .i64 0, .int .i64 4]) (by simp [results, Tryz.results5, go_sem]) rfl ⟨.inl ⟨4, by decide, HOP.out.trans hRe, rfl⟩, below_seq HB1.out (Nat.le_refl _) HB4.out⟩
                  · obtain ⟨N8, hN8⟩ : ∃ N8, N8 = 8 * n := ⟨_, rfl⟩
                    have h8i : IntKind.i64.wrap (8 * (n : Int)) = (N8 : Int) := by rw [IntWalk.i64_in _ (by omega)]; omega
                    have HN8 := Lib.hid hN8
                    by_cases hsh : T < p + 32 + N8
                    · have hsd : storedS bs T most (q + 3) o2 = .error 2 := by rw [Hstd.out, if_neg Hx.out, if_neg hfull, ← hN8, if_pos hsh]
                      clear hN8
                      have hRe : R = .error 2 := by
                        have h1 := HI.out
                        rw [iter_inr (step_err (by omega) (by rw [Hkind.out, ← HK.out, HST.out, hsd])) f] at h1
                        cases h1
                        rfl
                      go_wp2_with fail
                      refine bodyPost_ret (v := .tuple #[.slice none 0 0, .int .i64 0, .int .i64 2]) (by simp [results, Tryz.results5, go_sem]) rfl ⟨.inl ⟨2, by decide, HOP.out.trans hRe, rfl⟩, below_seq HB1.out (Nat.le_refl _) HB4.out⟩
                    · have hsd : storedS bs T most (q + 3) o2 = .ok (p + 32 + N8, o2 ++ (bs.drop ((p + 32) / 8)).take n) := by rw [Hstd.out, if_neg Hx.out, if_neg hfull, ← hN8, if_neg hsh]
                      have hb9 : blockS bs T most K (q + 3) o2 = .ok (p + 32 + N8, o2 ++ (bs.drop ((p + 32) / 8)).take n) := HST.out.trans hsd
                      have Hb9 := Lib.hid hb9
                      have hN7 : N8 ≤ c7 := by omega
                      have hN7i : (N8 : Int) ≤ (c7 : Int) := by omega
                      have hpk : packB (bitsOf bs (p + 32) N8) = (bs.drop ((p + 32) / 8)).take n := by
                        rw [show p + 32 = 8 * ((p + 32) / 8) by omega, hN8, pack_of (fun j hj => Hb.out j (by rw [← Hl.out]; exact hj)) (by have := HT.out; rw [Hl.out]; omega), show 8 * ((p + 32) / 8) / 8 = (p + 32) / 8 by omega]
                      have hlen9 : ((bs.drop ((p + 32) / 8)).take n).length = n := by
                        have := HT.out
                        rw [List.length_take, List.length_drop, Hl.out]
                        omega
                      have h87 : (N8 + 7) / 8 = n := by omega
                      have Hpk := Lib.hid hpk
                      obtain ⟨Z9, hZ9⟩ : ∃ Z9, Z9 = (bs.drop ((p + 32) / 8)).take n := ⟨_, rfl⟩
                      rw [← hZ9] at Hb9 Hpk hlen9
                      clear hsd hb9 hpk hN8 hZ9
                      go_wp2_with fail
                      refine (Bytes_calls (some ⟨b6, p7, none⟩) N8 c7 (bitsOf bs (p + 32) N8) _ (bits_front HA8.out (by omega)) (fun e => by cases e) (bitsOf_01 _ _ _) (by omega)).mono ?_
                      rintro e w5 ⟨v5, rfl, ho5, hb5⟩
                      rw [Hpk.out, h87] at ho5
                      obtain ⟨A9, c9, rfl, _, hr9⟩ := own_rd ho5
                      have hnn := own_none ho5
                      have HR9 := Lib.hid hr9
                      have Hnn := Lib.hid hnn
                      have HOw5 := Lib.hid (own_below HOw4.out hb5)
                      have HA9 := Lib.hid (HA8.out.below hb5)
                      have HB5 := Lib.hid (HB4.out.trans (hb5.mono HB4.out.size))
                      have hs5 : w1.heap.size ≤ w5.heap.size := HB5.out.size
                      have hms := Hmost.out
                      clear ho5 hb5 hr9 hnn
                      go_upto_region 25 with (at_builtin; refine wpList_appRd rfl _ _ rfl elB HOw5.out rfl rfl HR9.out Hnn.out (by omega) hs5 ?_; intro v6 w6 ho6 hg6; obtain ⟨Av9, cv9, rfl⟩ := own_slice ho6; have HO6 := Lib.hid ho6; have HG6 := Lib.hid hg6; clear ho6 hg6)
                      obtain ⟨q9, hq9e⟩ : ∃ q9, q9 = p + 32 + N8 := ⟨_, rfl⟩
                      obtain ⟨o9, ho9e⟩ : ∃ o9, o9 = o2 ++ Z9 := ⟨_, rfl⟩
                      have hlo : o2.length + n = o9.length := by rw [ho9e, List.length_append, hlen9]
                      rw [← ho9e] at HO6 Hb9
                      rw [← hq9e] at Hb9
                      rw [hlo] at HO6 ⊢
                      have HO9 := Lib.hid HO6.out
                      have ho9l : o9.length ≤ 100000000 := by rw [← hlo]; omega
                      have HA10 : Hid (Rd w6 .u8 (some ⟨b6, p7, none⟩) (T - (p + 32)) (bitsOf bs (p + 32) (T - (p + 32)))) := Lib.hid (HA9.out.far (Fr.ofGrown HG6.out) (fun b o e h => by
                        cases e
                        have h1 := (HOw5.out.lt b6 h).1
                        obtain ⟨o', e'⟩ := HS6.out b6 p6 rfl
                        have h2 := HAB.out b6 o' e'
                        omega))
                      have HB9 := Lib.hid (HB5.out.grown HG6.out hs5 (fun k hk => (HOw5.out.lt k hk).1))
                      have HS9 : Hid (∀ p8, SameB A1 (some ⟨b6, p8, none⟩)) := Lib.hid (fun p8 => HS6.out.move p8)
                      have hq9 : q9 ≤ T := by omega
                      have Hq9e := Lib.hid hq9e
                      have hq9d : T - (p + 32) - N8 = T - q9 := by omega
                      clear hq9e ho9e hlo hlen9 h87
                      go_cut [7] from 88 to 91 (fun t wx => ∃ p8 c', t = .slice (some ⟨b6, p8, none⟩) (T - q9) c' ∧ T - q9 ≤ c' ∧ c' ≤ 9223372036854775807 ∧ Hid (Rd w6 .u8 (some ⟨b6, p8, none⟩) (T - q9) (bitsOf bs q9 (T - q9))) ∧ w6 = wx)
                      case first =>
                        rcases Nat.lt_or_ge N8 c7 with hcap | hcap
                        · have hne : ¬ c7 = N8 := by omega
                          go_wp2
                          go_meet
                          exact ⟨_, _, rfl, by omega, by omega, Lib.hid (by rw [Hq9e.out]; exact bits_part HA10.out N8 (T - (p + 32 + N8)) (by omega)), rfl⟩
                        · obtain rfl : c7 = N8 := by omega
                          have e0 : T - q9 = 0 := by have := Hq9e.out; omega
                          go_wp2
                          go_meet
                          exact ⟨_, _, by rw [e0], by omega, by omega, Lib.hid (by rw [e0]; exact bits_none _), rfl⟩
                      case rest =>
                      obtain ⟨p8, c9', rfl, hc9, hc9b, HR10, rfl⟩ := hcut
                      have HS10 := Lib.hid (HS9.out p8)
                      clear HR9 HS9
                      by_cases hx : x0 = 0
                      · have hl0 : ((x0 : Int) == 1) = false := by simp; omega
                        have hI2 : iter (openStep bs T most) f (q9, o9) = some R := by
                          rw [← iter_inl (step_next (show q + 3 ≤ T by omega) (by rw [Hlast.out]; exact hx) (by rw [Hkind.out, ← HK.out]; exact Hb9.out)) f]
                          exact HI.out
                        have HI2 := Lib.hid hI2
                        clear hI2
                        go_wp2_with fail
                        go_roundg f
                        case measure => omega
                        case rel => exact ⟨q9, o9, _, some ⟨b6, p8, none⟩, c9', rfl, rfl, hq9, hc9, hc9b, ho9l, HS10, HI2, HO9, HR10, HB9⟩
                      · have hl0 : ((x0 : Int) == 1) = true := by simp; omega
                        have hRe : R = .ok (q9, o9) := by
                          have h1 := HI.out
                          rw [iter_inr (step_last (show q + 3 ≤ T by omega) (by rw [Hlast.out]; exact hx) (by rw [Hkind.out, ← HK.out]; exact Hb9.out)) f] at h1
                          cases h1
                          rfl
                        have HRe := Lib.hid hRe
                        have hsub : IntKind.i64.wrap ((T : Int) - ((T - q9 : Nat) : Int)) = (q9 : Int) := by rw [IntWalk.i64_in _ (by omega)]; omega
                        clear hRe
                        go_wp2_with fail
                        obtain ⟨Z, hZ⟩ : ∃ Z : Nat, Z = (q9 + 7) / 8 := ⟨_, rfl⟩
                        rw [show ((q9 : Int) + 7) / 8 = (Z : Int) by omega]
                        refine bodyPost_ret (v := .tuple #[.slice Av9 o9.length cv9, .int .i64 (Z : Nat), .int .i64 0]) (by simp [results, Tryz.results5, go_sem]) rfl ⟨.inr ⟨q9, o9, _, HOP.out.trans HRe.out, by rw [← hZ], own_mono HO9.out HB1.out.size⟩, below_seq HB1.out (Nat.le_refl _) HB9.out⟩
                · have hsd : storedS bs T most (q + 3) o2 = .error 3 := by rw [Hstd.out, if_pos (fun h => hsum (Hxs.out.1 h).1)]
                  have hsi : IntKind.i64.wrap ((n : Int) + (m : Int)) = ((n + m : Nat) : Int) := by rw [IntWalk.i64_in _ (by omega)]; omega
                  have hsne : (((n + m : Nat) : Int) != 65535) = true := by simp; omega
                  have hRe : R = .error 3 := by
                    have h1 := HI.out
                    rw [iter_inr (step_err (by omega) (by rw [Hkind.out, ← HK.out, HST.out, hsd])) f] at h1
                    cases h1
                    rfl
                  go_wp2_with fail
                  refine bodyPost_ret (v := .tuple #[.slice none 0 0, .int .i64 0, .int .i64 3]) (by simp [results, Tryz.results5, go_sem]) rfl ⟨.inl ⟨3, by decide, HOP.out.trans hRe, rfl⟩, below_seq HB1.out (Nat.le_refl _) HB4.out⟩
        · have k0 : ((K : Int) == 0) = false := by simp; omega
          go_wp2_with fail
          refine (AgreedX_calls _).mono ?_
          rintro e w3 ⟨X, cX, Y, cY, rfl, HX, HY, hcxy, hNX, hNY, hb3⟩
          have HB4 := Lib.hid (HB3.out.trans (hb3.mono HB3.out.size))
          have HOw3 := Lib.hid HOw2.out
          have HOw4 := Lib.hid (own_below HOw2.out hb3)
          have HA6 := Lib.hid (HA5.out.below hb3)
          clear hb3
          by_cases hk2 : K = 2
          · have k2 : ((K : Int) == 2) = true := by simp; omega
            go_wp2_with fail
            refine (refGetX_calls A5 (T - (q + 3)) c5 (q + 3) T bs _ HA6.out (by omega) (by omega) (by omega) hc5 hc5b).mono ?_
            rintro e w5 ⟨hres, hb5⟩
            have HB6 := Lib.hid (HB4.out.trans (hb5.mono HB4.out.size))
            have HOw6 := Lib.hid (own_below HOw4.out hb5)
            clear hb5
            rcases hres with ⟨l1, l2, q1, X2, cX2, Y2, cY2, A7, c7, hgs, rfl, hX2, hY2, hA7, hS7, hc7, hc7b, hNX2, hNY2⟩ | ⟨hgs, rfl⟩
            · have hrg := getS_rng hgs
              have Hgs := Lib.hid hgs
              have HX2 := Lib.hid hX2
              have HY2 := Lib.hid hY2
              have HA7 := Lib.hid hA7
              have hS17 : SameB A1 A7 := fun b o e => by
                obtain ⟨o', e'⟩ := hS7 b o e
                exact HS5.out b o' e'
              clear hgs hX2 hY2 hA7
              have hblk := Lib.hid (show blockS bs T most K (q + 3) o2 = codedS bs T most l1 l2 q1 o2 by rw [hk2]; unfold blockS; rw [if_neg (by decide), if_neg (by decide), if_pos rfl, Hgs.out])
              go_wp2_with fail
              refine (rCoded_calls (.slice Av o2.length cv) o2 w1.heap.size A7 c7 q1 T bs X2 l1.length cX2 l1 Y2 l2.length cY2 l2 most _ HOw6.out HA7.out (by omega) (by omega) (by omega) (by omega) (fun b o e => by
                obtain ⟨o', e'⟩ := (hS17) b o e
                exact HAB.out b o' e') HB6.out.size HX2.out (by omega) (fun b o e h => by
                have h1 := (HOw4.out.lt b h).2
                have h2 := hNX2 b o e
                omega) HY2.out (by omega) (fun b o e h => by
                have h1 := (HOw4.out.lt b h).2
                have h2 := hNY2 b o e
                omega) hmost ho2).mono ?_
              rintro e w9 ⟨hend, hfr⟩
              have HB9 := Lib.hid (HB6.out.trans (hfr.below HB6.out.size (fun o ho k e => by
                simp at ho
                subst ho
                exact (HOw6.out.lt k e).1)))
              rcases hend with ⟨ec, hec, hcd, rfl⟩ | ⟨q9, o9, v9, A9, c9, hcd, rfl, hq9, hc9, hc9b, ho9, hr9, hs9⟩
              · have hRe : R = .error ec := by
                  have h1 := HI.out
                  rw [iter_inr (step_err (by omega) (by rw [Hkind.out, ← HK.out, hblk.out, hcd])) f] at h1
                  cases h1
                  rfl
                have hecb : ((ec : Int) != 0) = true := by simpa using hec
                go_wp2_with fail
                refine bodyPost_ret (v := .tuple #[.slice none 0 0, .int .i64 0, .int .i64 ec]) (by simp [results, Tryz.results5, go_sem]) rfl ⟨.inl ⟨ec, hec, HOP.out.trans hRe, rfl⟩, below_seq HB1.out (Nat.le_refl _) HB9.out⟩
              · have hb9 : blockS bs T most K (q + 3) o2 = .ok (q9, o9) := hblk.out.trans hcd
                have hbl := block_len hb9
                have ho9l : o9.length ≤ 100000000 := by
                  rcases hbl.2 with h | h
                  · omega
                  · rw [h]; exact ho2
                obtain ⟨Av9, cv9, hv9⟩ := own_slice ho9
                subst hv9
                have HO9 := Lib.hid ho9
                have HR9 := Lib.hid hr9
                have HS9 : Hid (SameB A1 A9) := Lib.hid (fun b o e => by
                  obtain ⟨o', e'⟩ := hs9 b o e
                  exact (hS17) b o' e')
                have Hb9 := Lib.hid hb9
                clear hcd hbl ho9 hr9 hs9 hfr hb9
                by_cases hx : x0 = 0
                · have hl0 : ((x0 : Int) == 1) = false := by simp; omega
                  have hI2 : iter (openStep bs T most) f (q9, o9) = some R := by
                    rw [← iter_inl (step_next (show q + 3 ≤ T by omega) (by rw [Hlast.out]; exact hx) (by rw [Hkind.out, ← HK.out]; exact Hb9.out)) f]
                    exact HI.out
                  have HI2 := Lib.hid hI2
                  clear hI2
                  go_wp2_with fail
                  go_roundg f
                  case measure => omega
                  case rel => exact ⟨q9, o9, _, A9, c9, rfl, rfl, hq9, hc9, hc9b, ho9l, HS9, HI2, HO9, HR9, HB9⟩
                · have hl0 : ((x0 : Int) == 1) = true := by simp; omega
                  have hRe : R = .ok (q9, o9) := by
                    have h1 := HI.out
                    rw [iter_inr (step_last (show q + 3 ≤ T by omega) (by rw [Hlast.out]; exact hx) (by rw [Hkind.out, ← HK.out]; exact Hb9.out)) f] at h1
                    cases h1
                    rfl
                  have HRe := Lib.hid hRe
                  have hsub : IntKind.i64.wrap ((T : Int) - ((T - q9 : Nat) : Int)) = (q9 : Int) := by rw [IntWalk.i64_in _ (by omega)]; omega
                  clear hRe
                  go_wp2_with fail
                  obtain ⟨Z, hZ⟩ : ∃ Z : Nat, Z = (q9 + 7) / 8 := ⟨_, rfl⟩
                  rw [show ((q9 : Int) + 7) / 8 = (Z : Int) by omega]
                  refine bodyPost_ret (v := .tuple #[.slice Av9 o9.length cv9, .int .i64 (Z : Nat), .int .i64 0]) (by simp [results, Tryz.results5, go_sem]) rfl ⟨.inr ⟨q9, o9, _, HOP.out.trans HRe.out, by rw [← hZ], own_mono HO9.out HB1.out.size⟩, below_seq HB1.out (Nat.le_refl _) HB9.out⟩
            · have k3 : (q + 3) ≤ T := by omega
              have hRe : R = .error 3 := by
                have h1 := HI.out
                rw [iter_inr (step_err (by omega) (by rw [Hkind.out, ← HK.out, hk2]; unfold blockS; rw [if_neg (by decide), if_neg (by decide), if_pos rfl, hgs])) f] at h1
                cases h1
                rfl
              go_wp2_with fail
              refine bodyPost_ret (v := .tuple #[.slice none 0 0, .int .i64 0, .int .i64 3]) (by simp [results, Tryz.results5, go_sem]) rfl ⟨.inl ⟨3, by decide, HOP.out.trans hRe, rfl⟩, below_seq HB1.out (Nat.le_refl _) HB6.out⟩
          · have hk1 : K = 1 := by omega
            have k2 : ((K : Int) == 2) = false := by simp; omega
            have hblk := Lib.hid (show blockS bs T most K (q + 3) o2 = codedS bs T most fixA fixB (q + 3) o2 by rw [hk1]; rfl)
            go_wp2_with fail
            refine (rCoded_calls (.slice Av o2.length cv) o2 w1.heap.size A5 c5 (q + 3) T bs X 288 cX fixA Y 32 cY fixB most _ HOw4.out HA6.out (by omega) (by omega) (by omega) (by omega) (fun b o e => by
              obtain ⟨o', e'⟩ := (HS5.out) b o e
              exact HAB.out b o' e') HB4.out.size HX.out (by omega) (fun b o e h => by
              have h1 := (HOw3.out.lt b h).2
              have h2 := hNX b o e
              omega) HY.out (by omega) (fun b o e h => by
              have h1 := (HOw3.out.lt b h).2
              have h2 := hNY b o e
              omega) hmost ho2).mono ?_
            rintro e w9 ⟨hend, hfr⟩
            have HB9 := Lib.hid (HB4.out.trans (hfr.below HB4.out.size (fun o ho k e => by
              simp at ho
              subst ho
              exact (HOw4.out.lt k e).1)))
            rcases hend with ⟨ec, hec, hcd, rfl⟩ | ⟨q9, o9, v9, A9, c9, hcd, rfl, hq9, hc9, hc9b, ho9, hr9, hs9⟩
            · have hRe : R = .error ec := by
                have h1 := HI.out
                rw [iter_inr (step_err (by omega) (by rw [Hkind.out, ← HK.out, hblk.out, hcd])) f] at h1
                cases h1
                rfl
              have hecb : ((ec : Int) != 0) = true := by simpa using hec
              go_wp2_with fail
              refine bodyPost_ret (v := .tuple #[.slice none 0 0, .int .i64 0, .int .i64 ec]) (by simp [results, Tryz.results5, go_sem]) rfl ⟨.inl ⟨ec, hec, HOP.out.trans hRe, rfl⟩, below_seq HB1.out (Nat.le_refl _) HB9.out⟩
            · have hb9 : blockS bs T most K (q + 3) o2 = .ok (q9, o9) := hblk.out.trans hcd
              have hbl := block_len hb9
              have ho9l : o9.length ≤ 100000000 := by
                rcases hbl.2 with h | h
                · omega
                · rw [h]; exact ho2
              obtain ⟨Av9, cv9, hv9⟩ := own_slice ho9
              subst hv9
              have HO9 := Lib.hid ho9
              have HR9 := Lib.hid hr9
              have HS9 : Hid (SameB A1 A9) := Lib.hid (fun b o e => by
                obtain ⟨o', e'⟩ := hs9 b o e
                exact (HS5.out) b o' e')
              have Hb9 := Lib.hid hb9
              clear hcd hbl ho9 hr9 hs9 hfr hb9
              by_cases hx : x0 = 0
              · have hl0 : ((x0 : Int) == 1) = false := by simp; omega
                have hI2 : iter (openStep bs T most) f (q9, o9) = some R := by
                  rw [← iter_inl (step_next (show q + 3 ≤ T by omega) (by rw [Hlast.out]; exact hx) (by rw [Hkind.out, ← HK.out]; exact Hb9.out)) f]
                  exact HI.out
                have HI2 := Lib.hid hI2
                clear hI2
                go_wp2_with fail
                go_roundg f
                case measure => omega
                case rel => exact ⟨q9, o9, _, A9, c9, rfl, rfl, hq9, hc9, hc9b, ho9l, HS9, HI2, HO9, HR9, HB9⟩
              · have hl0 : ((x0 : Int) == 1) = true := by simp; omega
                have hRe : R = .ok (q9, o9) := by
                  have h1 := HI.out
                  rw [iter_inr (step_last (show q + 3 ≤ T by omega) (by rw [Hlast.out]; exact hx) (by rw [Hkind.out, ← HK.out]; exact Hb9.out)) f] at h1
                  cases h1
                  rfl
                have HRe := Lib.hid hRe
                have hsub : IntKind.i64.wrap ((T : Int) - ((T - q9 : Nat) : Int)) = (q9 : Int) := by rw [IntWalk.i64_in _ (by omega)]; omega
                clear hRe
                go_wp2_with fail
                obtain ⟨Z, hZ⟩ : ∃ Z : Nat, Z = (q9 + 7) / 8 := ⟨_, rfl⟩
                rw [show ((q9 : Int) + 7) / 8 = (Z : Int) by omega]
                refine bodyPost_ret (v := .tuple #[.slice Av9 o9.length cv9, .int .i64 (Z : Nat), .int .i64 0]) (by simp [results, Tryz.results5, go_sem]) rfl ⟨.inr ⟨q9, o9, _, HOP.out.trans HRe.out, by rw [← hZ], own_mono HO9.out HB1.out.size⟩, below_seq HB1.out (Nat.le_refl _) HB9.out⟩
end Go.Proofs.YtdbkbeojedndbaaGreatDoor
namespace Go.Proofs.YtdbkbeojedndbaaGreatDoor
open Go.RowKit

theorem conv_all {W : World} {A : Option Addr} {n c : Nat} {ns : List Int} (h : Rd W .u8 A n ns) : (convert 22 9 (.slice A n c)).run Tryz.prog W = .ok (.string (strOfNums ns)) W := by
 rcases Nat.eq_zero_or_pos n with h0 | h0
 ·subst h0
  have : ns = [] := List.length_eq_zero_iff.1 h.1
  subst this
  rw [run_convert_bytes_string W 22 9 A 0 c (e := 5) Tryz.underlying22 Tryz.underlying5 Tryz.underlying9]
  cases A <;> simp [Conv.bytesToString, loadCells]
  all_goals rfl
 ·obtain ⟨b, o, rfl, hc⟩ := h.2 h0
  exact run_convert_bytes_arg W _ 5 Tryz.underlying22 Tryz.underlying5 b o n c ns h.1 hc _ Tryz.underlying9
theorem conv_allL {w0 : World} {A : Option Addr} {n c : Nat} {ns : List Int} (h : Rd w0 .u8 A n ns) : ∀ W, Later w0 W → (convert 22 9 (.slice A n c)).run Tryz.prog W = .ok (.string (strOfNums ns)) W :=
 fun _ hL => conv_all (h.below hL.bel)
end Go.Proofs.YtdbkbeojedndbaaGreatDoor
