/-
  Texts joined into one file: DefP, Num, Trim, CodesW, Nodes, NodesB.
-/
import Derived.Test.YtdbkbeojedndbaaGreatDoorJRefCo4
import Derived.Test.YtdbkbeojedndbaaGreatDoorJRefCo11
import Derived.Test.YtdbkbeojedndbaaGreatDoorJRefCo13
import Derived.Test.YtdbkbeojedndbaaGreatDoorJRefCo5
import Derived.IntWalk
import Derived.Test.YtdbkbeojedndbaaGreatDoorJRefCo12
import Derived.BigQuiet
import Derived.BigRegion
import Derived.Deep.RegionWith
import Derived.Deep.RegionHeld3
import Derived.Deep.AppendLies
import Derived.Deep.RegionLaw
import Derived.Test.YtdbkbeojedndbaaGreatDoorJRefCo2
namespace Go.Proofs.YtdbkbeojedndbaaGreatDoor
open Go.RowKit

def symCode (a : List Int) (s : Nat) : List Int := hiOf (rd (codesOf a) s).toNat (rd a s).toNat
def tokBits (a b : List Int) (t : Tok) : List Int :=
 if t.2.1 = 0 then symCode a t.1.toNat
 else symCode a (symS 257 lens t.2.1).toNat ++ lowOf (symX lens t.2.1).toNat (symB lens t.2.1).toNat ++ (symCode b (symS 0 dists t.2.2).toNat ++ lowOf (symX dists t.2.2).toNat (symB dists t.2.2).toNat)
def toksTo (a b : List Int) (ts : List Tok) (k : Nat) : List Int := (ts.take k).flatMap (tokBits a b)
theorem toksTo_succ (a b : List Int) {ts : List Tok} {k : Nat} (h : k < ts.length) : toksTo a b ts (k + 1) = toksTo a b ts k ++ tokBits a b (tokB ts k, tokL ts k, tokD ts k) := by
 unfold toksTo
 rw [take_tok ts k h, List.flatMap_append, List.flatMap_cons, List.flatMap_nil, List.append_nil]
def toksS (a b : List Int) (ts : List Tok) : List Int := ts.flatMap (tokBits a b) ++ symCode a 256
theorem toksTo_all (a b : List Int) (ts : List Tok) : toksTo a b ts ts.length = ts.flatMap (tokBits a b) := by unfold toksTo; rw [List.take_length]
def wtsA (ts : List Tok) : List Int := (List.range 286).map fun j => cntA ts j + if 256 = j then 1 else 0
def wtsD (ts : List Tok) : List Int := (List.range 30).map fun j => cntD ts j
theorem wtsA_length (ts : List Tok) : (wtsA ts).length = 286 := by simp [wtsA]
theorem wtsD_length (ts : List Tok) : (wtsD ts).length = 30 := by simp [wtsD]
theorem rd_map_range {n j : Nat} (f : Nat → Int) (h : j < n) : rd ((List.range n).map f) j = f j := by
 rw [rd_getElem (by simp; exact h)]
 simp
theorem wtsA_is {ts : List Tok} {la : List Int} (hl : la.length = 286) (h : ∀ j, j < 286 → rd la j = cntA ts j + if 256 = j then 1 else 0) : la = wtsA ts := by
 refine ext_rd (by rw [hl, wtsA_length]) (fun j hj => ?_)
 rw [hl] at hj
 rw [h j hj]
 unfold wtsA
 rw [rd_map_range _ hj]
theorem wtsD_is {ts : List Tok} {lb : List Int} (hl : lb.length = 30) (h : ∀ j, j < 30 → rd lb j = cntD ts j) : lb = wtsD ts := by
 refine ext_rd (by rw [hl, wtsD_length]) (fun j hj => ?_)
 rw [hl] at hj
 rw [h j hj]
 unfold wtsD
 rw [rd_map_range _ hj]
theorem cntA_rng (ts : List Tok) (j : Nat) : 0 ≤ cntA ts j ∧ cntA ts j ≤ ts.length := by
 have h := cntA_le ts ts.length j
 rwa [List.take_of_length_le (Nat.le_refl _)] at h
theorem cntD_rng (ts : List Tok) (j : Nat) : 0 ≤ cntD ts j ∧ cntD ts j ≤ ts.length := by
 have h := cntD_le ts ts.length j
 rwa [List.take_of_length_le (Nat.le_refl _)] at h
theorem wtsA_mem {ts : List Tok} : ∀ x ∈ wtsA ts, 0 ≤ x ∧ x ≤ ts.length + 1 := by
 intro x hx
 unfold wtsA at hx
 obtain ⟨j, _, rfl⟩ := List.mem_map.1 hx
 have := cntA_rng ts j
 split <;> omega
theorem wtsD_mem {ts : List Tok} : ∀ x ∈ wtsD ts, 0 ≤ x ∧ x ≤ ts.length := by
 intro x hx
 unfold wtsD at hx
 obtain ⟨j, _, rfl⟩ := List.mem_map.1 hx
 exact cntD_rng ts j
theorem wtsA_sum (ts : List Tok) : (wtsA ts).sum ≤ 286 * (ts.length + 1) := by
 have := sum_le_mul (l := wtsA ts) (B := (ts.length : Int) + 1) (by omega) (fun x hx => (wtsA_mem x hx).2)
 rw [wtsA_length] at this
 exact this
theorem wtsD_sum (ts : List Tok) : (wtsD ts).sum ≤ 30 * ts.length := by
 have := sum_le_mul (l := wtsD ts) (B := (ts.length : Int)) (by omega) (fun x hx => (wtsD_mem x hx).2)
 rw [wtsD_length] at this
 exact this
def lenA (ts : List Tok) : List Int := lensOf 15 (wtsA ts)
def lenD (ts : List Tok) : List Int := lensOf 15 (wtsD ts)
theorem lenA_length (ts : List Tok) : (lenA ts).length = 286 := by unfold lenA; rw [lensOf_length, wtsA_length]
theorem lenD_length (ts : List Tok) : (lenD ts).length = 30 := by unfold lenD; rw [lensOf_length, wtsD_length]
theorem lensOf_rng {ws : List Int} {m : Nat} (hm : 1 ≤ m) (h0 : ∀ x ∈ ws, 0 ≤ x) (hp : (posTo ws ws.length).length ≤ 2 ^ m) (j : Nat) : 0 ≤ rd (lensOf m ws) j ∧ rd (lensOf m ws) j ≤ m := by
 rcases Nat.lt_or_ge j (lensOf m ws).length with g | g
 ·obtain ⟨wt, e, h1, h2, h3⟩ := lensOf_is hm h0 hp
  rw [e] at g ⊢
  have hj : j < wt.length := by rw [onceM_length] at g; exact g
  have := (onceM_pos wt j hj).1
  refine ⟨this, ?_⟩
  rw [rd_getElem g]
  exact h3 _ (List.getElem_mem g)
 ·have : rd (lensOf m ws) j = 0 := rd_out g
  omega
theorem lenA_rng (ts : List Tok) (j : Nat) : 0 ≤ rd (lenA ts) j ∧ rd (lenA ts) j ≤ 15 :=
 lensOf_rng (m := 15) (by omega) (fun x hx => (wtsA_mem x hx).1) (Nat.le_trans (posTo_le _ _) (by rw [wtsA_length]; decide)) j
theorem lenD_rng (ts : List Tok) (j : Nat) : 0 ≤ rd (lenD ts) j ∧ rd (lenD ts) j ≤ 15 :=
 lensOf_rng (m := 15) (by omega) (fun x hx => (wtsD_mem x hx).1) (Nat.le_trans (posTo_le _ _) (by rw [wtsD_length]; decide)) j
theorem fixA_rng (j : Nat) : 0 ≤ rd fixA j ∧ rd fixA j ≤ 15 := by
 rcases Nat.lt_or_ge j 288 with g | g
 ·rw [rd_fixA j g]; unfold fixAt; split <;> (try split) <;> (try split) <;> omega
 ·have : rd fixA j = 0 := rd_out (by rw [fixA_length]; exact g)
  omega
theorem fixB_rng (j : Nat) : 0 ≤ rd fixB j ∧ rd fixB j ≤ 15 := by
 rcases Nat.lt_or_ge j 32 with g | g
 ·rw [rd_fixB j g]; omega
 ·have : rd fixB j = 0 := rd_out (by unfold fixB; rw [List.length_replicate]; exact g)
  omega
def fixedS (b : List Int) : List Int := [1, 1, 0] ++ toksS fixA fixB (pressL b)
def dynS (b : List Int) : List Int := [1, 0, 1] ++ (putS (lenA (pressL b)) (lenD (pressL b)) ++ toksS (lenA (pressL b)) (lenD (pressL b)) (pressL b))
def storedB (b : List Int) : List Int := stoB (b.length + 1) b
def pressB (b : List Int) : List Int :=
 if (fixedS b).length < 8 * (storedB b).length then (if (dynS b).length < (fixedS b).length then packB (dynS b) else packB (fixedS b))
 else if (dynS b).length < 8 * (storedB b).length then packB (dynS b) else storedB b
theorem hiOf_bit (x n : Nat) : Bit01 (hiOf x n) := fun y hy => lowOf_bit x n y (List.mem_reverse.1 hy)
theorem symCode_bit (a : List Int) (s : Nat) : Bit01 (symCode a s) := hiOf_bit _ _
theorem symCode_len {a : List Int} (h : ∀ j, 0 ≤ rd a j ∧ rd a j ≤ 15) (s : Nat) : (symCode a s).length ≤ 15 := by
 unfold symCode; rw [hiOf_length]; have := h s; omega
theorem tokBits_bit (a b : List Int) (t : Tok) : Bit01 (tokBits a b t) := by
 unfold tokBits
 split
 ·exact symCode_bit _ _
 ·exact ((symCode_bit _ _).app (lowOf_bit _ _)).app ((symCode_bit _ _).app (lowOf_bit _ _))
theorem toksTo_bit (a b : List Int) (ts : List Tok) (k : Nat) : Bit01 (toksTo a b ts k) := by
 intro x hx
 obtain ⟨t, _, h⟩ := List.mem_flatMap.1 hx
 exact tokBits_bit a b t x h
def TokOk (ts : List Tok) : Prop := ∀ j, j < ts.length → (0 ≤ tokB ts j ∧ tokB ts j ≤ 255) ∧ tokOk (tokL ts j) (tokB ts j) (tokD ts j) = true
theorem tok_get {ts : List Tok} {j : Nat} (h : j < ts.length) : ts[j] = (tokB ts j, tokL ts j, tokD ts j) := by simp [tokB, tokL, tokD, List.getD_eq_getElem?_getD, List.getElem?_eq_getElem h]
theorem tokOk_mk {l b d : Int} (h : (l = 0 ∧ d = 0) ∨ (b = 0 ∧ 3 ≤ l ∧ l ≤ 258 ∧ 1 ≤ d ∧ d ≤ 32768)) : tokOk l b d = true := by
 unfold tokOk
 simp
 omega
theorem pressL_ok {b : List Int} (hb : ∀ j, j < b.length → 0 ≤ rd b j ∧ rd b j ≤ 255) : TokOk (pressL b) := by
 intro j hj
 have h := pressFrom_ok hb _ 0 _ (List.getElem_mem (l := pressL b) hj)
 rw [tok_get hj] at h
 simp only at h
 refine ⟨by omega, tokOk_mk (by omega)⟩
theorem pressL_length (b : List Int) : (pressL b).length ≤ b.length := pressFrom_length _ _ _
theorem tokBits_len {a b : List Int} (ha : ∀ j, 0 ≤ rd a j ∧ rd a j ≤ 15) (hb : ∀ j, 0 ≤ rd b j ∧ rd b j ≤ 15) {t : Tok} (ht : tokOk t.2.1 t.1 t.2.2 = true) : (tokBits a b t).length ≤ 48 := by
 unfold tokBits
 split
 ·have := symCode_len ha t.1.toNat; omega
 ·rename_i hn
  rcases tokOk_cases ht with h | ⟨_, h1, h2, h3, h4⟩
  ·exact absurd h.1 hn
  ·have r1 := symL_range t.2.1 h1 h2
   have r2 := symD_range t.2.2 h3 h4
   have l1 := symCode_len ha (symS 257 lens t.2.1).toNat
   have l2 := symCode_len hb (symS 0 dists t.2.2).toNat
   simp only [List.length_append, lowOf_length]
   omega
theorem toksTo_len {a b : List Int} (ha : ∀ j, 0 ≤ rd a j ∧ rd a j ≤ 15) (hb : ∀ j, 0 ≤ rd b j ∧ rd b j ≤ 15) {ts : List Tok} (ht : TokOk ts) : ∀ k, k ≤ ts.length → (toksTo a b ts k).length ≤ 48 * k := by
 intro k
 induction k with
 | zero => intro _; exact Nat.le_refl _
 | succ k ih =>
  intro hk
  rw [toksTo_succ a b (by omega), List.length_append]
  have h1 := ih (by omega)
  have h2 := tokBits_len (t := (tokB ts k, tokL ts k, tokD ts k)) ha hb (ht k (by omega)).2
  omega
end Go.Proofs.YtdbkbeojedndbaaGreatDoor
namespace Go.Proofs.YtdbkbeojedndbaaGreatDoor
open Go.RowKit

theorem bits_part {w : World} {b o m : Nat} {bs : List Int} {p : Nat} (h : Rd w .u8 (some ⟨b, o, none⟩) m (bitsOf bs p m)) (k j : Nat) (hk : k + j ≤ m) : Rd w .u8 (some ⟨b, o + k, none⟩) j (bitsOf bs (p + k) j) :=
 ⟨by rw [bitsOf_length], fun hj => ⟨b, o + k, rfl, fun i hi => by
  obtain ⟨b', o', e, hc⟩ := h.2 (by omega)
  cases e
  have h9 := hc (k + i) (by omega)
  rw [rd_bitsOf (by omega)] at h9
  rw [rd_bitsOf hi, Nat.add_assoc, Nat.add_assoc]
  exact h9⟩⟩
theorem bits_none {w : World} {A : Option Addr} {bs : List Int} (p : Nat) : Rd w .u8 A 0 (bitsOf bs p 0) := ⟨by rw [bitsOf_length], fun h => by omega⟩
set_option maxHeartbeats 1000000 in
theorem Num_calls (A : Option Addr) (m c p : Nat) (bs : List Int) (w : World) (hA : Rd w .u8 A m (bitsOf bs p m)) (hm : m ≤ 60) :
  Calls Tryz.prog 10 #[.slice A m c] w fun e w' => e = .returned (.int .u64 (numAt bs p m : Nat)) ∧ w = w' := by
 have HA := Lib.hid hA
 clear hA
 go_enter Tryz.func10, Tryz.ntmps10
 go_wp2
 go_loop [3, 4] (fun x i => ∃ k j : Nat, k + j = m ∧ i = .int .i64 ((k : Int) - 1) ∧ x = .int .u64 (numAt bs (p + k) j : Nat)) (fun _ i => (intOf i + 1).toNat)
 case atStart => exact ⟨m, 0, by omega, rfl, rfl⟩
 case round =>
  obtain ⟨k, j, hk, rfl, rfl⟩ := hrel
  by_cases hlt : 0 < k
  ·obtain ⟨b, o, rfl, hc⟩ := HA.out.2 (by omega)
   have z := hc (k - 1) (by omega)
   rw [rd_bitsOf (by omega)] at z
   have hx := numAt_lt bs (p + k) j
   have hpow : (2 : Nat) ^ j ≤ 2 ^ 60 := Nat.pow_le_pow_right (by omega) (by omega)
   have hp60 : (2 : Nat) ^ 60 = 1152921504606846976 := by decide
   have hbt := bitAt_le bs (p + (k - 1))
   have hcons := numAt_cons bs (p + (k - 1)) j
   rw [show p + (k - 1) + 1 = p + k from by omega] at hcons
   obtain ⟨X, hX⟩ : ∃ X, X = numAt bs (p + k) j := ⟨_, rfl⟩
   obtain ⟨Y, hY⟩ : ∃ Y, Y = bitAt bs (p + (k - 1)) := ⟨_, rfl⟩
   rw [← hX, ← hY] at hcons
   rw [← hX] at hx ⊢
   rw [← hY] at z hbt
   have Hcons := Lib.hid hcons
   have hX2 : X ≤ 1152921504606846976 := by omega
   have s1 : ((k : Int) - 1).toNat = k - 1 := by omega
   have s2 : (0 : Int) ≤ (k : Int) - 1 := by omega
   clear hc hcons hX hY hx hpow hp60
   go_wp2
   go_round
   case rel => exact ⟨k - 1, j + 1, by omega, by rw [show (((k - 1 : Nat) : Int)) = (k : Int) - 1 from by omega], by rw [Hcons.out]; go_num⟩
   case measure => simp [intOf]; omega
  ·obtain rfl : k = 0 := by omega
   obtain rfl : j = m := by omega
   go_wp2
   go_ret
   exact ⟨rfl, rfl⟩
set_option maxHeartbeats 1000000 in set_option maxRecDepth 100000 in
theorem order_calls (w : World) :
  Calls Tryz.prog 20 #[] w fun e w' => ∃ g, e = .returned (.slice (some ⟨g, 0, none⟩) 19 19) ∧ (∀ j, j < 19 → w'.cell? ⟨g, j, none⟩ = some (.int .i64 (ordL.getD j 0 : Nat))) ∧ Below w.heap.size w w' := by
 go_enter Tryz.func20, Tryz.ntmps20
 go_wp2
 go_ret
 refine ⟨w.heap.size, rfl, fun j hj => ?_, (Below.refl _ _).alloc (Nat.le_refl _) _⟩
 have key : ∀ j : Nat, j < 19 → (#[Value.int .i64 16, .int .i64 17, .int .i64 18, .int .i64 0, .int .i64 8, .int .i64 7, .int .i64 9, .int .i64 6, .int .i64 10, .int .i64 5, .int .i64 11, .int .i64 4, .int .i64 12, .int .i64 3, .int .i64 13, .int .i64 2, .int .i64 14, .int .i64 1, .int .i64 15].toList)[j]? = some (Value.int .i64 (ordL.getD j 0 : Nat)) := by
  intro j hj
  have : j = 0 ∨ j = 1 ∨ j = 2 ∨ j = 3 ∨ j = 4 ∨ j = 5 ∨ j = 6 ∨ j = 7 ∨ j = 8 ∨ j = 9 ∨ j = 10 ∨ j = 11 ∨ j = 12 ∨ j = 13 ∨ j = 14 ∨ j = 15 ∨ j = 16 ∨ j = 17 ∨ j = 18 := by omega
  rcases this with rfl | rfl | rfl | rfl | rfl | rfl | rfl | rfl | rfl | rfl | rfl | rfl | rfl | rfl | rfl | rfl | rfl | rfl | rfl <;> rfl
 have h := news_at w _ 3 j _ (key j hj)
 rw [addr_add, Nat.zero_add] at h
 exact h
end Go.Proofs.YtdbkbeojedndbaaGreatDoor
namespace Go.Proofs.YtdbkbeojedndbaaGreatDoor
open Go.RowKit

set_option maxHeartbeats 1000000 in set_option maxRecDepth 100000 in
theorem trim_calls (A : Option Addr) (n c least : Nat) (xs : List Int) (w : World) (hR : Rd w .i64 A n xs) (h1 : 1 ≤ least) (hl : least ≤ n) (hn : n ≤ 1000000) (hc : n ≤ c) :
  Calls Tryz.prog 78 #[.slice A n c, .int .i64 least] w fun e w' => e = .returned (.slice A (tn xs least (n - least)) c) ∧ w = w' := by
 obtain ⟨b, o, rfl, hcell⟩ := hR.2 (by omega)
 have HC := Lib.hid hcell
 clear hcell
 go_enter Tryz.func78, Tryz.ntmps78
 go_wp2
 go_loop [5] (fun i => ∃ d : Nat, d ≤ n - least ∧ i = .int .i64 ((least + d : Nat) : Int) ∧ Hid (tn xs least (n - least) = tn xs least d)) (fun i => (intOf i).toNat)
 case atStart => exact ⟨n - least, by omega, by rw [show least + (n - least) = n from by omega], rfl⟩
 case round =>
  obtain ⟨d, hd, rfl, HT⟩ := hrel
  rcases Nat.eq_zero_or_pos d with h0 | h0
  ·subst h0
   have HT2 := HT.out
   rw [show tn xs least 0 = least from rfl] at HT2
   have HT3 := Lib.hid HT2
   clear HT2
   rw [Nat.add_zero]
   go_wp2
   go_ret
   exact ⟨by rw [HT3.out]; rfl, rfl⟩
  ·obtain ⟨e, rfl⟩ : ∃ e, d = e + 1 := ⟨d - 1, by omega⟩
   have z := HC.out (least + e) (by omega)
   obtain ⟨y, hy⟩ : ∃ y, rd xs (least + e) = y := ⟨_, rfl⟩
   rw [hy] at z
   have HT2 := HT.out
   have hu : tn xs least (e + 1) = if rd xs (least + e) = 0 then tn xs least e else least + e + 1 := rfl
   rw [hu, hy] at HT2
   obtain ⟨q, hq⟩ : ∃ q, q = least + e := ⟨_, rfl⟩
   rw [← hq] at z HT2
   rw [show least + (e + 1) = q + 1 from by omega]
   have hql : least ≤ q := by omega
   have hqn : q < n := by omega
   have s1 : (((q + 1 : Nat) : Int) - 1).toNat = q := by omega
   have s2 : (((q + 1 : Nat) : Int) - 1) = (q : Int) := by omega
   by_cases hy0 : y = 0
   ·rw [if_pos hy0] at HT2
    have HT3 := Lib.hid HT2
    have Hq := Lib.hid hq
    subst hy0
    clear HT2 hy hu hq
    go_wp2
    go_round
    case rel => exact ⟨e, by omega, by rw [← Hq.out], HT3.out⟩
    case measure => simp [intOf]
   ·rw [if_neg hy0] at HT2
    have HT3 := Lib.hid HT2
    have d0 : (y == 0) = false := by simpa using hy0
    clear HT2 hy hu hq
    go_wp2
    go_ret
    exact ⟨by rw [HT3.out]; rfl, rfl⟩
set_option maxHeartbeats 1000000 in set_option maxRecDepth 100000 in
theorem refTrim_calls (A : Option Addr) (n c least : Nat) (xs : List Int) (w : World) (hR : Rd w .i64 A n xs) (h1 : 1 ≤ least) (hl : least ≤ n) (hn : n ≤ 1000000) (hc : n ≤ c) :
  Calls Tryz.prog 93 #[.slice A n c, .int .i64 least] w fun e w' => e = .returned (.slice A (tn xs least (n - least)) c) ∧ w = w' := by
 obtain ⟨b, o, rfl, hcell⟩ := hR.2 (by omega)
 have HC := Lib.hid hcell
 clear hcell
 go_enter Tryz.func93, Tryz.ntmps93
 go_wp2
 go_loop [5, 6] (fun m i => ∃ d : Nat, d ≤ n - least ∧ i = .int .i64 ((least + d : Nat) : Int) ∧ m = .int .i64 (tn xs least d : Nat)) (fun _ i => n - (intOf i).toNat)
 case atStart => exact ⟨0, by omega, rfl, rfl⟩
 case round =>
  obtain ⟨d, hd, rfl, rfl⟩ := hrel
  have ht := tn_rng xs least d
  obtain ⟨q, hq⟩ : ∃ q, q = least + d := ⟨_, rfl⟩
  by_cases hlt : d < n - least
  ·have z := HC.out (least + d) (by omega)
   obtain ⟨y, hy⟩ : ∃ y, rd xs (least + d) = y := ⟨_, rfl⟩
   rw [hy] at z
   have hu : tn xs least (d + 1) = if rd xs (least + d) = 0 then tn xs least d else least + d + 1 := rfl
   rw [hy, ← hq] at hu
   rw [← hq] at z ⊢
   have hqn : q < n := by omega
   have Hq := Lib.hid hq
   clear hq hy
   by_cases hy0 : y = 0
   ·rw [if_pos hy0] at hu
    have Hu := Lib.hid hu
    subst hy0
    clear hu
    go_wp2
    go_round
    case rel => exact ⟨d + 1, by omega, by rw [show least + (d + 1) = q + 1 from by have := Hq.out; omega]; go_num, by rw [Hu.out]⟩
    case measure => simp [intOf]; omega
   ·rw [if_neg hy0] at hu
    have Hu := Lib.hid hu
    have d0 : (y == 0) = false := by simpa using hy0
    clear hu
    go_wp2
    go_round
    case rel => exact ⟨d + 1, by omega, by rw [show least + (d + 1) = q + 1 from by have := Hq.out; omega]; go_num, by rw [Hu.out]; go_num⟩
    case measure => simp [intOf]; omega
  ·obtain rfl : d = n - least := by omega
   have e1 : least + (n - least) = n := by omega
   rw [e1]
   obtain ⟨m, hm⟩ : ∃ m, m = tn xs least (n - least) := ⟨_, rfl⟩
   rw [← hm] at ht ⊢
   have hmn : m ≤ n := by omega
   clear e1 hq ht
   have Hm := Lib.hid hm
   clear hm
   go_wp2
   go_ret
   exact ⟨by first | rfl | (rw [← Hm.out]; rfl) | (rw [Hm.out]; rfl), rfl⟩
end Go.Proofs.YtdbkbeojedndbaaGreatDoor
namespace Go.Proofs.YtdbkbeojedndbaaGreatDoor
open Go.RowKit

set_option maxHeartbeats 1000000 in
theorem run_calls (A : Option Addr) (n cap i : Nat) (xs : List Int) (w : World) (hR : Rd w .i64 A n xs) (hn : n ≤ 17592186044416) (hi : i < n) :
  Calls Tryz.prog 102 #[.slice A n cap, .int .i64 i] w fun e w' => e = .returned (.int .i64 (runLen xs i)) ∧ Below w.heap.size w w' := by
 obtain ⟨hlen, hR⟩ := hR
 obtain ⟨b, o, rfl, hc⟩ := hR (by omega)
 have Hc := Lib.hid hc
 have Hlen := Lib.hid hlen
 clear hR hc hlen
 go_enter Tryz.func102, Tryz.ntmps102
 go_wp2
 go_loopw [5] (fun k wr => ∃ m : Nat, 1 ≤ m ∧ i + m ≤ n ∧ k = .int .i64 m ∧ Hid (∀ j, j < m → rd xs (i + j) = rd xs i) ∧ Below w.heap.size w wr) (fun k _ => n - (intOf k).toNat)
 case atStart => exact ⟨1, by omega, by omega, rfl, fun j hj => by rw [show j = 0 from by omega]; rfl, Below.refl _ _⟩
 case round =>
  obtain ⟨m, hm, him, rfl, Hall, hbel⟩ := hrel
  have Hbel := Lib.hid hbel
  have z2 := kept_cell hbel (Hc.out i hi)
  clear hbel
  have s1 : IntKind.i64.wrap ((i : Int) + m) = i + m := IntWalk.i64_in _ (by omega)
  have s2 : ((i : Int) + m).toNat = i + m := by omega
  have s3 : 0 ≤ (i : Int) + m := by omega
  by_cases hlt : i + m < n
  ·have z1 := kept_cell Hbel.out (Hc.out (i + m) hlt)
   have s4 : decide ((i : Int) + m < n) = true := by simp; omega
   have s5 : (i : Int) + m < n := by omega
   cases he : (rd xs (i + m) == rd xs i)
   ·go_wp2
    go_quiet (fail)
    go_wp2
    go_ret
    refine ⟨?_, Hbel.out.trans ⟨rfl, rfl, rfl, Nat.le_refl _, fun _ _ => rfl⟩⟩
    rw [runLen_of m (by rw [Hlen.out]; omega) Hall.out (.inr (by simpa using he))]
    rfl
   ·go_wp2
    go_quiet (fail)
    go_wp2
    go_roundw
    case rel =>
     refine ⟨m + 1, by omega, by omega, by go_num, ?_, Hbel.out.trans ⟨rfl, rfl, rfl, Nat.le_refl _, fun _ _ => rfl⟩⟩
     intro j hj
     rcases Nat.lt_or_ge j m with h | h
     ·exact Hall.out j h
     ·rw [show j = m from by omega]; simpa using he
    case measure => simp [intOf]; omega
  ·have s4 : decide ((i : Int) + m < n) = false := by simp; omega
   go_wp2
   go_quiet (fail)
   go_wp2
   go_ret
   refine ⟨?_, Hbel.out.trans ⟨rfl, rfl, rfl, Nat.le_refl _, fun _ _ => rfl⟩⟩
   rw [runLen_of m (by rw [Hlen.out]; omega) Hall.out (.inl (by rw [Hlen.out]; omega))]
   rfl

theorem elItem : ElT Tryz.prog 129 131 (.agg #[.int .i64 0, .int .i64 0, .int .u64 0]) 3 24 := ⟨Tryz.underlying129, by kernel_rfl, rfl, by decide, by decide⟩

set_option maxHeartbeats 4000000 in
set_option maxRecDepth 200000 in
theorem Press_calls (A : Option Addr) (n cap : Nat) (xs : List Int) (w : World) (hR : Rd w .i64 A n xs) (hn : n ≤ 1000000) :
  Calls Tryz.prog 79 #[.slice A n cap] w fun e w' => ∃ v, e = .returned v ∧ w'.ownsRow w.heap.size 131 3 v (items xs).length (itemCells (items xs)) ∧ Below w.heap.size w w' := by
 have Hlen := Lib.hid hR.1
 have HR := Lib.hid hR
 clear hR
 go_enter Tryz.func79, Tryz.ntmps79
 go_wp2
 go_loopw [3, 4] (fun v i wr => ∃ (k : Nat) (pre : List Item), k ≤ n ∧ i = .int .i64 k ∧ pre.length ≤ k ∧ wr.ownsRow w.heap.size 131 3 v pre.length (itemCells pre) ∧ Hid (items xs = pre ++ itemsFrom xs xs.length k) ∧ Below w.heap.size w wr) (fun _ i _ => n - (intOf i).toNat)
 case atStart => exact ⟨0, [], by omega, rfl, by simp, World.ownsRow_nil _ _ _ _, rfl, Below.refl _ _⟩
 case round =>
  obtain ⟨k, pre, hk, rfl, hpre, hown, Hit, hbel⟩ := hrel
  have Hbel := Lib.hid hbel
  have Hown := Lib.hid hown
  have hsz := hbel.size
  clear hbel hown
  by_cases hlt : k < n
  ·have hrp := runLen_pos (xs := xs) (i := k) (by rw [Hlen.out]; exact hlt)
   rw [Hlen.out] at hrp
   go_wp2_with fail
   refine (run_calls A n cap k xs _ (HR.out.below (Hbel.out.mono (Nat.le_refl _))) (by omega) hlt).mono ?_
   rintro e w1 ⟨rfl, hb1⟩
   have Hown1 := Lib.hid (own_below Hown.out hb1)
   have Hbel1 := Lib.hid (below_seq Hbel.out (Nat.le_refl _) hb1)
   have hsz1 := Hbel1.out.size
   obtain ⟨b, o, rfl, hc⟩ := HR.out.2 (by omega)
   have z1 := kept_new (kept_cell Hbel1.out (hc k hlt))
   have Z0 := Lib.hid (fun h : 0 < k => kept_new (kept_cell Hbel1.out (hc (k - 1) (by omega))))
   clear hc Hown Hbel hb1
   by_cases h0 : rd xs k = 0
   ·have t1 : (rd xs k == 0) = true := by simpa using h0
    have H0 := Lib.hid h0
    clear h0
    by_cases h1 : 11 ≤ runLen xs k
    ·by_cases h2 : 138 < runLen xs k
     ·go_wp2_with (first | (at_builtin; refine wpList_app2 rfl _ _ rfl elItem (Hown1.out.alloc _) rfl rfl (by simp) rfl rfl (by omega) (by simp; omega) ?_; intro v' w' hown' hbel' _))
      go_roundw
      case rel =>
       refine ⟨k + 138, pre ++ [⟨18, 7, 127⟩], by omega, by go_num, by simp; omega, ?_, ?_, (below_new Hbel1.out (Nat.le_refl _) _).trans hbel'⟩
       ·rw [List.length_append, itemCells_append]; exact hown'
       ·exact items_next (by rw [Hlen.out]; exact hlt) Hit.out (by rw [itemAt_18 H0.out h1, Nat.min_eq_right (by omega)]; rfl)
      case measure => simp [intOf]; omega
     ·go_wp2_with (first | (at_builtin; refine wpList_app2 rfl _ _ rfl elItem (Hown1.out.alloc _) rfl rfl (by simp) rfl rfl (by omega) (by simp; omega) ?_; intro v' w' hown' hbel' _))
      go_roundw
      case rel =>
       refine ⟨k + runLen xs k, pre ++ [⟨18, 7, (runLen xs k : Nat) - 11⟩], by omega, by go_num, by simp; omega, ?_, ?_, (below_new Hbel1.out (Nat.le_refl _) _).trans hbel'⟩
       ·rw [List.length_append, itemCells_append]; exact hown'
       ·exact items_next (by rw [Hlen.out]; exact hlt) Hit.out (by rw [itemAt_18 H0.out h1, Nat.min_eq_left (by omega)])
      case measure => simp [intOf]; omega
    ·by_cases h2 : 3 ≤ runLen xs k
     ·go_wp2_with (first | (at_builtin; refine wpList_app2 rfl _ _ rfl elItem (Hown1.out.alloc _) rfl rfl (by simp) rfl rfl (by omega) (by simp; omega) ?_; intro v' w' hown' hbel' _))
      go_roundw
      case rel =>
       refine ⟨k + runLen xs k, pre ++ [⟨17, 3, (runLen xs k : Nat) - 3⟩], by omega, by go_num, by simp; omega, ?_, ?_, (below_new Hbel1.out (Nat.le_refl _) _).trans hbel'⟩
       ·rw [List.length_append, itemCells_append]; exact hown'
       ·exact items_next (by rw [Hlen.out]; exact hlt) Hit.out (itemAt_17 H0.out h2 (by omega))
      case measure => simp [intOf]; omega
     ·have t2 : (rd xs k != 0) = false := by simpa using H0.out
      go_wp2_with (first | (at_builtin; refine wpList_app2 rfl _ _ rfl elItem (Hown1.out.alloc _) rfl rfl (by simp) rfl rfl (by omega) (by simp; omega) ?_; intro v' w' hown' hbel' _))
      go_quiet (fail)
      go_wp2_with (first | (at_builtin; refine wpList_app2 rfl _ _ rfl elItem (own_below Hown1.out (drawn3 w1 _ _ _ _ _)) rfl rfl (by simp) rfl rfl (by omega) (by simp; omega) ?_; intro v' w' hown' hbel' _))
      go_roundw
      case rel =>
       refine ⟨k + 1, pre ++ [⟨rd xs k, 0, 0⟩], by omega, by go_num, by simp; omega, ?_, ?_, (below_seq Hbel1.out (Nat.le_refl _) (drawn3 w1 _ _ _ _ _)).trans hbel'⟩
       ·rw [List.length_append, itemCells_append]; exact hown'
       ·exact items_next (by rw [Hlen.out]; exact hlt) Hit.out (itemAt_one (.inl ⟨H0.out, by omega⟩))
      case measure => simp [intOf]; omega
   ·have t1 : (rd xs k == 0) = false := by simpa using h0
    have t2 : (rd xs k != 0) = true := by simpa using h0
    have H0 := Lib.hid h0
    clear h0
    by_cases hk0 : 0 < k
    ·have z0 := Z0.out hk0
     have s1 : IntKind.i64.wrap ((k : Int) - 1) = k - 1 := IntWalk.i64_in _ (by omega)
     have s2 : ((k : Int) - 1).toNat = k - 1 := by omega
     have s3 : 0 ≤ (k : Int) - 1 := by omega
     have s4 : (k : Int) - 1 < n := by omega
     have t3 : decide (0 < (k : Int)) = true := by simp; omega
     cases t4 : (rd xs (k - 1) == rd xs k)
     ·go_wp2_with (first | (at_builtin; refine wpList_app2 rfl _ _ rfl elItem (Hown1.out.alloc _) rfl rfl (by simp) rfl rfl (by omega) (by simp; omega) ?_; intro v' w' hown' hbel' _))
      go_quiet (fail)
      go_wp2_with (first | (at_builtin; refine wpList_app2 rfl _ _ rfl elItem (own_below Hown1.out (drawn3 w1 _ _ _ _ _)) rfl rfl (by simp) rfl rfl (by omega) (by simp; omega) ?_; intro v' w' hown' hbel' _))
      go_roundw
      case rel =>
       refine ⟨k + 1, pre ++ [⟨rd xs k, 0, 0⟩], by omega, by go_num, by simp; omega, ?_, ?_, (below_seq Hbel1.out (Nat.le_refl _) (drawn3 w1 _ _ _ _ _)).trans hbel'⟩
       ·rw [List.length_append, itemCells_append]; exact hown'
       ·exact items_next (by rw [Hlen.out]; exact hlt) Hit.out (itemAt_one (.inr ⟨H0.out, .inr (.inl (by simpa using t4))⟩))
      case measure => simp [intOf]; omega
     ·by_cases h3 : 3 ≤ runLen xs k
      ·have t5 : decide (3 ≤ (runLen xs k : Int)) = true := by simp; omega
       by_cases h6 : 6 < runLen xs k
       ·go_wp2_with (first | (at_builtin; refine wpList_app2 rfl _ _ rfl elItem (Hown1.out.alloc _) rfl rfl (by simp) rfl rfl (by omega) (by simp; omega) ?_; intro v' w' hown' hbel' _))
        go_quiet (fail)
        go_wp2_with (first | (at_builtin; refine wpList_app2 rfl _ _ rfl elItem (own_below Hown1.out (drawn3 w1 _ _ _ _ _)) rfl rfl (by simp) rfl rfl (by omega) (by simp; omega) ?_; intro v' w' hown' hbel' _))
        go_roundw
        case rel =>
         refine ⟨k + 6, pre ++ [⟨16, 2, 3⟩], by omega, by go_num, by simp; omega, ?_, ?_, (below_seq Hbel1.out (Nat.le_refl _) (drawn3 w1 _ _ _ _ _)).trans hbel'⟩
         ·rw [List.length_append, itemCells_append]; exact hown'
         ·exact items_next (by rw [Hlen.out]; exact hlt) Hit.out (by rw [itemAt_16 H0.out hk0 (by simpa using t4) h3, Nat.min_eq_right (by omega)]; rfl)
        case measure => simp [intOf]; omega
       ·go_wp2_with (first | (at_builtin; refine wpList_app2 rfl _ _ rfl elItem (Hown1.out.alloc _) rfl rfl (by simp) rfl rfl (by omega) (by simp; omega) ?_; intro v' w' hown' hbel' _))
        go_quiet (fail)
        go_wp2_with (first | (at_builtin; refine wpList_app2 rfl _ _ rfl elItem (own_below Hown1.out (drawn3 w1 _ _ _ _ _)) rfl rfl (by simp) rfl rfl (by omega) (by simp; omega) ?_; intro v' w' hown' hbel' _))
        go_roundw
        case rel =>
         refine ⟨k + runLen xs k, pre ++ [⟨16, 2, (runLen xs k : Nat) - 3⟩], by omega, by go_num, by simp; omega, ?_, ?_, (below_seq Hbel1.out (Nat.le_refl _) (drawn3 w1 _ _ _ _ _)).trans hbel'⟩
         ·rw [List.length_append, itemCells_append]; exact hown'
         ·exact items_next (by rw [Hlen.out]; exact hlt) Hit.out (by rw [itemAt_16 H0.out hk0 (by simpa using t4) h3, Nat.min_eq_left (by omega)])
        case measure => simp [intOf]; omega
      ·have t5 : decide (3 ≤ (runLen xs k : Int)) = false := by simp; omega
       go_wp2_with (first | (at_builtin; refine wpList_app2 rfl _ _ rfl elItem (Hown1.out.alloc _) rfl rfl (by simp) rfl rfl (by omega) (by simp; omega) ?_; intro v' w' hown' hbel' _))
       go_quiet (fail)
       go_wp2_with (first | (at_builtin; refine wpList_app2 rfl _ _ rfl elItem (own_below Hown1.out (drawn3 w1 _ _ _ _ _)) rfl rfl (by simp) rfl rfl (by omega) (by simp; omega) ?_; intro v' w' hown' hbel' _))
       go_roundw
       case rel =>
        refine ⟨k + 1, pre ++ [⟨rd xs k, 0, 0⟩], by omega, by go_num, by simp; omega, ?_, ?_, (below_seq Hbel1.out (Nat.le_refl _) (drawn3 w1 _ _ _ _ _)).trans hbel'⟩
        ·rw [List.length_append, itemCells_append]; exact hown'
        ·exact items_next (by rw [Hlen.out]; exact hlt) Hit.out (itemAt_one (.inr ⟨H0.out, .inr (.inr (by omega))⟩))
       case measure => simp [intOf]; omega
    ·have t3 : decide (0 < (k : Int)) = false := by simp; omega
     go_wp2_with (first | (at_builtin; refine wpList_app2 rfl _ _ rfl elItem (Hown1.out.alloc _) rfl rfl (by simp) rfl rfl (by omega) (by simp; omega) ?_; intro v' w' hown' hbel' _))
     go_quiet (fail)
     go_wp2_with (first | (at_builtin; refine wpList_app2 rfl _ _ rfl elItem (own_below Hown1.out (drawn3 w1 _ _ _ _ _)) rfl rfl (by simp) rfl rfl (by omega) (by simp; omega) ?_; intro v' w' hown' hbel' _))
     go_roundw
     case rel =>
      refine ⟨k + 1, pre ++ [⟨rd xs k, 0, 0⟩], by omega, by go_num, by simp; omega, ?_, ?_, (below_seq Hbel1.out (Nat.le_refl _) (drawn3 w1 _ _ _ _ _)).trans hbel'⟩
      ·rw [List.length_append, itemCells_append]; exact hown'
      ·exact items_next (by rw [Hlen.out]; exact hlt) Hit.out (itemAt_one (.inr ⟨H0.out, .inl (by omega)⟩))
     case measure => simp [intOf]; omega
  ·obtain rfl : k = n := by omega
   go_wp2
   go_ret
   have e : items xs = pre := by rw [Hit.out, itemsFrom_end xs _ _ (by rw [Hlen.out]; exact Nat.le_refl _), List.append_nil]
   rw [e]
   exact ⟨_, rfl, Hown.out, Hbel.out⟩
end Go.Proofs.YtdbkbeojedndbaaGreatDoor
namespace Go.Proofs.YtdbkbeojedndbaaGreatDoor
open Go.RowKit

structure NodesAt (w : World) (h : Nat) (va vw : Value) (n : Nat) (flat wait : List Int) : Prop where
  at' : w.heap[h]? = some (.cells #[va, vw] 161 (0, 0))
  all : w.ownsRow 0 163 4 va n (ints .i64 flat)
  wait : w.ownsRow 0 3 1 vw wait.length (ints .i64 wait)
theorem NodesAt.lt {w : World} {h n : Nat} {va vw : Value} {flat wait : List Int} (H : NodesAt w h va vw n flat wait) : h < w.heap.size := (Array.getElem?_eq_some_iff.1 H.at').1
theorem NodesAt.c0 {w : World} {h n : Nat} {va vw : Value} {flat wait : List Int} (H : NodesAt w h va vw n flat wait) : w.cell? ⟨h, 0, none⟩ = some va := by rw [cell_of_row w h 0 _ _ (0, 0) H.at']; rfl
theorem NodesAt.c1 {w : World} {h n : Nat} {va vw : Value} {flat wait : List Int} (H : NodesAt w h va vw n flat wait) : w.cell? ⟨h, 1, none⟩ = some vw := by rw [cell_of_row w h 1 _ _ (0, 0) H.at']; rfl
theorem NodesAt.frozen {w : World} {h n : Nat} {va vw : Value} {flat wait : List Int} (H : NodesAt w h va vw n flat wait) (j : Nat) : w.frozen? ⟨h, j, none⟩ = false := frozen_of_row w h j _ _ H.at'
theorem NodesAt.aw {w : World} {h n : Nat} {va vw : Value} {flat wait : List Int} (H : NodesAt w h va vw n flat wait) : Apart va.ownBlock vw.ownBlock := own_apart2 (by decide) H.all H.wait
theorem NodesAt.ah {w : World} {h n : Nat} {va vw : Value} {flat wait : List Int} (H : NodesAt w h va vw n flat wait) : Apart va.ownBlock (some h) := own_apart H.at' (by decide) H.all
theorem NodesAt.wh {w : World} {h n : Nat} {va vw : Value} {flat wait : List Int} (H : NodesAt w h va vw n flat wait) : Apart vw.ownBlock (some h) := own_apart H.at' (by decide) H.wait
theorem NodesAt.fr {w w' : World} {h n : Nat} {va vw : Value} {flat wait : List Int} {S : List (Option Nat)} (H : NodesAt w h va vw n flat wait) (hf : Fr w w' S) (hS : ∀ o ∈ S, Apart va.ownBlock o ∧ Apart vw.ownBlock o ∧ o ≠ some h) : NodesAt w' h va vw n flat wait :=
  ⟨(hf.block h H.lt (fun o ho => (hS o ho).2.2)).trans H.at', own_fr H.all hf (fun o ho => (hS o ho).1), own_fr H.wait hf (fun o ho => (hS o ho).2.1)⟩
theorem NodesAt.keep {w w' : World} {h n : Nat} {va vw : Value} {flat wait : List Int} (H : NodesAt w h va vw n flat wait) (hb : Below w.heap.size w w') : NodesAt w' h va vw n flat wait :=
  H.fr (Fr.ofBelow hb []) (fun o ho => by simp at ho)
def ltF (flat : List Int) (x y : Int) : Bool := decide (rd flat (x.toNat * 4) < rd flat (y.toNat * 4)) || (rd flat (x.toNat * 4) == rd flat (y.toNat * 4) && decide (rd flat (x.toNat * 4 + 1) < rd flat (y.toNat * 4 + 1)))

set_option maxHeartbeats 1000000 in
theorem Len_calls (h n : Nat) (va vw : Value) (flat wait : List Int) (w : World) (H : NodesAt w h va vw n flat wait) :
    Calls Tryz.prog 98 #[.pointer (some ⟨h, 0, none⟩)] w fun e w' => e = .returned (.int .i64 wait.length) ∧ w = w' := by
  have c1 := H.c1
  obtain ⟨A, c, rfl⟩ := own_slice H.wait
  clear H
  go_enter Tryz.func98, Tryz.ntmps98
  go_wp2
  go_ret
  exact ⟨rfl, rfl⟩
set_option maxHeartbeats 1000000 in
theorem Less_calls (h n i k : Nat) (va vw : Value) (flat wait : List Int) (w : World) (H : NodesAt w h va vw n flat wait) (hi : i < wait.length) (hk : k < wait.length) (hx : ∀ j, j < wait.length → 0 ≤ rd wait j ∧ rd wait j < n) (hn : n ≤ 1000000) (hm : wait.length ≤ 1000000) :
    Calls Tryz.prog 121 #[.pointer (some ⟨h, 0, none⟩), .int .i64 i, .int .i64 k] w fun e w' => e = .returned (.bool (ltF flat (rd wait i) (rd wait k))) ∧ Below w.heap.size w w' := by
  have c0 := H.c0
  have c1 := H.c1
  have hfl : flat.length = n * 4 := by have := H.all.1; rwa [ints_length] at this
  obtain ⟨x, hx1⟩ : ∃ x : Nat, rd wait i = x := ⟨(rd wait i).toNat, by have := hx i hi; omega⟩
  obtain ⟨y, hy1⟩ : ∃ y : Nat, rd wait k = y := ⟨(rd wait k).toNat, by have := hx k hk; omega⟩
  have hxn : x < n := by have := hx i hi; omega
  have hyn : y < n := by have := hx k hk; omega
  obtain ⟨gw, cw, rfl, _, _, hcw, hcell, _⟩ := own_form H.wait (by omega)
  obtain ⟨ga, ca, rfl, _, _, hca, hacell, _⟩ := own_form H.all (by omega)
  have wi := hcell i _ (ints_get hi)
  have wk := hcell k _ (ints_get hk)
  rw [hx1] at wi
  rw [hy1] at wk
  have x0 := hacell (x * 4) _ (ints_get (by omega))
  have x1 := hacell (x * 4 + 1) _ (ints_get (by omega))
  have x2 := hacell (x * 4 + 2) _ (ints_get (by omega))
  have x3 := hacell (x * 4 + 3) _ (ints_get (by omega))
  have y0 := hacell (y * 4) _ (ints_get (by omega))
  have y1 := hacell (y * 4 + 1) _ (ints_get (by omega))
  have y2 := hacell (y * 4 + 2) _ (ints_get (by omega))
  have y3 := hacell (y * 4 + 3) _ (ints_get (by omega))
  have hres : ltF flat (rd wait i) (rd wait k) = (decide (rd flat (x * 4) < rd flat (y * 4)) || (rd flat (x * 4) == rd flat (y * 4) && decide (rd flat (x * 4 + 1) < rd flat (y * 4 + 1)))) := by
    rw [hx1, hy1]
    rfl
  rw [hres]
  clear hres
  obtain ⟨wx, e1⟩ : ∃ v, rd flat (x * 4) = v := ⟨_, rfl⟩
  obtain ⟨wy, e2⟩ : ∃ v, rd flat (y * 4) = v := ⟨_, rfl⟩
  obtain ⟨ox, e3⟩ : ∃ v, rd flat (x * 4 + 1) = v := ⟨_, rfl⟩
  obtain ⟨oy, e4⟩ : ∃ v, rd flat (y * 4 + 1) = v := ⟨_, rfl⟩
  rw [e1] at x0
  rw [e2] at y0
  rw [e3] at x1
  rw [e4] at y1
  rw [e1, e2, e3, e4]
  have L0 := Later.refl w
  have C0 := Later.cell c0
  have C1 := Later.cell c1
  have Wi := Later.cell wi
  have Wk := Later.cell wk
  have X0 := Later.cell x0
  have X1 := Later.cell x1
  have X2 := Later.cell x2
  have X3 := Later.cell x3
  have Y0 := Later.cell y0
  have Y1 := Later.cell y1
  have Y2 := Later.cell y2
  have Y3 := Later.cell y3
  clear H hcell hacell hx hx1 hy1 hfl e1 e2 e3 e4 c0 c1 wi wk x0 x1 x2 x3 y0 y1 y2 y3
  go_enter Tryz.func121, Tryz.ntmps121
  go_wp2
  go_region_held3 (fun W => Later w W ∧ W.cell? ⟨h, 0, none⟩ = some (.slice (some ⟨ga, 0, none⟩) n ca) ∧ W.cell? ⟨h, 1, none⟩ = some (.slice (some ⟨gw, 0, none⟩) wait.length cw) ∧ W.cell? ⟨gw, i, none⟩ = some (.int .i64 x) ∧ W.cell? ⟨gw, k, none⟩ = some (.int .i64 y) ∧
    W.cell? ⟨ga, x * 4, none⟩ = some (.int .i64 wx) ∧ W.cell? ⟨ga, x * 4 + 1, none⟩ = some (.int .i64 ox) ∧ W.cell? ⟨ga, x * 4 + 2, none⟩ = some (.int .i64 (rd flat (x * 4 + 2))) ∧ W.cell? ⟨ga, x * 4 + 3, none⟩ = some (.int .i64 (rd flat (x * 4 + 3))) ∧
    W.cell? ⟨ga, y * 4, none⟩ = some (.int .i64 wy) ∧ W.cell? ⟨ga, y * 4 + 1, none⟩ = some (.int .i64 oy) ∧ W.cell? ⟨ga, y * 4 + 2, none⟩ = some (.int .i64 (rd flat (y * 4 + 2))) ∧ W.cell? ⟨ga, y * 4 + 3, none⟩ = some (.int .i64 (rd flat (y * 4 + 3))))
    ((refine (fun L => ⟨L, C0 _ L, C1 _ L, Wi _ L, Wk _ L, X0 _ L, X1 _ L, X2 _ L, X3 _ L, Y0 _ L, Y1 _ L, Y2 _ L, Y3 _ L⟩) ?_; repeat (first | exact L0 | refine Later.drew ?_ | refine Later.new _ ?_ | refine Later.made _ _ (by first | exact Nat.le_refl _ | (simp; done) | (simp; omega)) ?_))) (fail)
  all_goals
    rename_i hh
    clear hh C0 C1 Wi Wk X0 X1 X2 X3 Y0 Y1 Y2 Y3 L0
    go_wp2
    all_goals
      go_ret
      refine ⟨?_, ((Below.refl _ _).alloc (Nat.le_refl _) _).alloc (by simp) _ |>.drew⟩
      first
      | rfl
      | (have g : wx = wy := by assumption
         subst g
         simp)
      | (have g : ¬ wx = wy := by assumption
         simp [g])
end Go.Proofs.YtdbkbeojedndbaaGreatDoor
namespace Go.Proofs.YtdbkbeojedndbaaGreatDoor
open Go.RowKit

theorem NodesAt.put {w : World} {h n g c : Nat} {va : Value} {flat wait : List Int} (H : NodesAt w h va (.slice (some ⟨g, 0, none⟩) wait.length c) n flat wait) (j : Nat) (v : Int) :
  NodesAt (w.setCell ⟨g, j, none⟩ (.int .i64 v)) h va (.slice (some ⟨g, 0, none⟩) wait.length c) n flat (wait.set j v) := by
 have hne : h ≠ g := fun e => H.wh g rfl (by rw [e])
 refine ⟨(heap_setCell_other w ⟨g, j, none⟩ h _ hne).trans H.at', own_fr H.all ((Fr.refl w [some g]).set ⟨g, j, none⟩ _ (.inl (by simp))) (fun o ho => ?_), ?_⟩
 ·simp at ho
  subst ho
  exact H.aw
 ·rw [List.length_set, ints_set]
  exact own_store H.wait j _
theorem kept_new_f {w : World} {a : Addr} (h : w.frozen? a = false) (hlt : a.block < w.heap.size) (o : Obj) : (w.alloc o).frozen? a = false := (World.frozen?_of_block (Below.heap_alloc _ _ _ hlt)).trans h
set_option maxHeartbeats 1000000 in
theorem Swap_calls (h n i k : Nat) (va vw : Value) (flat wait : List Int) (w : World) (H : NodesAt w h va vw n flat wait) (hi : i < wait.length) (hk : k < wait.length) :
  Calls Tryz.prog 124 #[.pointer (some ⟨h, 0, none⟩), .int .i64 i, .int .i64 k] w fun e w' => e = .returned (.tuple #[]) ∧ NodesAt w' h va vw n flat (swp wait i k) ∧ Fr w w' [vw.ownBlock] ∧ w'.heap.size = w.heap.size := by
 have c1 := H.c1
 obtain ⟨gw, cw, rfl, _, _, hcw, hcell, hfz⟩ := own_form H.wait (by omega)
 have wi := hcell i _ (ints_get hi)
 have wk := hcell k _ (ints_get hk)
 have fi := hfz i
 have fk := hfz k
 have hne := H.wh
 have hgh : ¬ gw = h := fun e => hne gw rfl (by rw [e])
 have hgh2 : ¬ h = gw := fun e => hgh e.symm
 have hset : ∀ v, ∃ u, (w.setCell ⟨gw, i, none⟩ v).cell? ⟨gw, k, none⟩ = some u := by
  intro v
  have ho := own_store H.wait i v
  have := ho.cellAt k (by omega)
  exact ⟨_, this.trans (List.getElem?_eq_getElem (by rw [List.length_set, ints_length]; exact hk))⟩
 obtain ⟨u, hu⟩ := hset (.int .i64 (rd wait k))
 have HH := Lib.hid H
 clear H hcell hfz hne hset
 go_enter Tryz.func124, Tryz.ntmps124
 go_region
 go_wp2
 go_end0
 have h1 := (HH.out.put i (rd wait k))
 have h2 := NodesAt.put (wait := wait.set i (rd wait k)) (by rw [List.length_set]; exact h1) k (rd wait i)
 refine ⟨rfl, ?_, ((Fr.refl w _).set _ _ (.inl (by simp [Value.ownBlock]))).set _ _ (.inl (by simp [Value.ownBlock])) |>.drew, by simp⟩
 rw [List.length_set] at h2
 exact h2.keep (Below.refl _ _).drew
set_option maxHeartbeats 1000000 in
theorem NPop_calls (h n : Nat) (va vw : Value) (flat wait : List Int) (w : World) (H : NodesAt w h va vw n flat wait) (hm : 0 < wait.length) :
  Calls Tryz.prog 122 #[.pointer (some ⟨h, 0, none⟩)] w fun e w' => e = .returned (.iface 3 (.int .i64 (rd wait (wait.length - 1)))) ∧ ∃ vw', NodesAt w' h va vw' n flat (wait.take (wait.length - 1)) ∧ vw'.ownBlock = vw.ownBlock ∧ Fr w w' [some h] ∧ w'.heap.size = w.heap.size := by
 have c1 := H.c1
 have f1 := H.frozen 1
 obtain ⟨gw, cw, rfl, _, _, hcw, hcell, hfz⟩ := own_form H.wait (by omega)
 have wl := hcell (wait.length - 1) _ (ints_get (by omega))
 obtain ⟨m, hm2⟩ : ∃ m, wait.length = m + 1 := ⟨wait.length - 1, by omega⟩
 rw [hm2] at c1 wl
 rw [hm2, Nat.add_sub_cancel]
 rw [Nat.add_sub_cancel] at wl
 have hbig : m + 1 ≤ maxLen := by
  rcases H.wait.2 with ⟨h1, _⟩ | ⟨g, cap, cur, h1, _, _, h3, h4, _⟩
  ·cases h1
  ·rw [hm2] at h3; omega
 unfold maxLen at hbig
 have Hm2 := Lib.hid hm2
 have HH := Lib.hid H
 clear H hcell hfz hm2
 have hcm : m ≤ cw := by have := Hm2.out; omega
 go_enter Tryz.func122, Tryz.ntmps122
 go_wp2
 go_ret
 refine ⟨rfl, .slice (some ⟨gw, 0, none⟩) m cw, ⟨?_, ?_, ?_⟩, rfl, (Fr.refl w _).set _ _ (.inl (by simp)), by simp⟩
 ·exact heap_setCell_same w h 1 _ _ _ HH.out.at'
 ·refine own_fr HH.out.all ((Fr.refl w [some h]).set ⟨h, 1, none⟩ _ (.inl (by simp))) (fun o ho => ?_)
  simp at ho
  subst ho
  exact HH.out.ah
 ·have h1 := own_front HH.out.wait m (by have := Hm2.out; omega)
  rw [show (wait.take m).length = m from by rw [List.length_take]; have := Hm2.out; omega]
  rw [show (ints .i64 wait).take m = ints .i64 (wait.take m) from by simp [ints, List.map_take]] at h1
  refine own_fr h1 ((Fr.refl w [some h]).set ⟨h, 1, none⟩ _ (.inl (by simp))) (fun o ho => ?_)
  simp at ho
  subst ho
  exact HH.out.wh
set_option maxHeartbeats 1000000 in
theorem NPush_calls (h n : Nat) (va vw : Value) (flat wait : List Int) (x : Int) (w : World) (H : NodesAt w h va vw n flat wait) (hm : wait.length ≤ 1000000) :
  Calls Tryz.prog 123 #[.pointer (some ⟨h, 0, none⟩), .iface 3 (.int .i64 x)] w fun e w' => e = .returned (.tuple #[]) ∧ ∃ vw', NodesAt w' h va vw' n flat (wait ++ [x]) ∧ (vw'.ownBlock = vw.ownBlock ∨ ∀ k, vw'.ownBlock = some k → w.heap.size ≤ k) ∧ Fr w w' [some h, vw.ownBlock] := by
 have c1 := H.c1
 have f1 := H.frozen 1
 have HH := Lib.hid H
 obtain ⟨A, c, rfl⟩ := own_slice H.wait
 have ta : ∀ W : World, Sem.run Tryz.prog (Instr.typeAssert (.iface 3 (.int .i64 x)) 20 3 false) W = .ok (.int .i64 x) W := fun W => by kernel_rfl
 obtain ⟨i0, hi0, hz0, hz1, hz2⟩ := info_parts elIntN.info
 have hh1 : h < w.heap.size := H.lt
 have hne := H.wh
 have Hne := Lib.hid hne
 clear H hne
 go_enter Tryz.func123, Tryz.ntmps123
 go_region_law
  ((refine step_append_lies _ (by rfl) _ _ _ (by rfl) 0 3 i0 (.int .i64 0) 1 8 elIntN.und hi0 hz0 hz1 hz2 rfl (by omega) (.slice A wait.length c) wait.length _ (by rfl) (HH.out.wait.alloc _) ⟨w.heap.size, 0, none⟩ 1 1 [.int .i64 x] (by rfl) rfl (news_at _ _ _) (by simp [Value.oneCell']) (by omega) (by unfold maxLen; omega) (by omega) (Nat.zero_le _) (w.heap.size + 1) (by simp) ?_; intro g cap w1 hown1 hgrow hat hlt; have q1 := hgrow.cell (kept_new c1 _) (fun e => Hne.out h e.symm rfl); have q2 := (hgrow.frozen_far ⟨h, 1, none⟩ (by simp; omega) (fun e => Hne.out h e.symm rfl)).trans (kept_new_f f1 hh1 _)))
 all_goals
  go_end0
  have hW1 : w1.heap[h]? = some (.cells #[va, .slice A wait.length c] 161 (0, 0)) := (hgrow.block h (by simp; omega) (fun e => Hne.out h e.symm rfl)).trans ((Below.heap_alloc _ _ _ hh1).trans HH.out.at')
  have FA : Fr w w1 [(Value.slice A wait.length c).ownBlock] := ((Fr.refl w _).alloc _ |>.drew).trans (Fr.ofGrown hgrow) (fun o ho => .inl ho)
  have FB : Fr w (w1.setCell ⟨h, 1, none⟩ (Value.slice (some ⟨g, 0, none⟩) (wait.length + 1) cap)) [some h, (Value.slice A wait.length c).ownBlock] := (FA.mono (fun o ho => by simp at ho ⊢; exact .inr ho)).set _ _ (.inl (by simp))
  refine ⟨rfl, .slice (some ⟨g, 0, none⟩) (wait.length + 1) cap, ⟨heap_setCell_same w1 h 1 _ _ _ hW1, ?_, ?_⟩, ?_, FB⟩
  ·refine own_fr HH.out.all FB (fun o ho => ?_)
   simp only [List.mem_cons, List.not_mem_nil, or_false] at ho
   rcases ho with rfl | rfl
   ·exact HH.out.ah
   ·exact HH.out.aw
  ·have h9 := own_fr hown1 ((Fr.refl w1 [some h]).set ⟨h, 1, none⟩ (Value.slice (some ⟨g, 0, none⟩) (wait.length + 1) cap) (.inl (by simp))) (fun o ho => by
    simp only [List.mem_cons, List.not_mem_nil, or_false] at ho
    subst ho
    exact own_apart hW1 (by decide) hown1)
   rw [List.length_append, ints_append]
   exact h9
  ·rcases hat with h8 | h8
   ·exact .inl h8.symm
   ·refine .inr (fun k hk => ?_)
    simp [Value.ownBlock] at hk
    omega
end Go.Proofs.YtdbkbeojedndbaaGreatDoor
